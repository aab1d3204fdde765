/-
  Chapter 18's law AlgoBack, walked: it returns true. The conditions: rows of bytes that a machine can hold.
-/
import Derived.Test.YthoaneleeabadaaGreatO11
import Derived.Test.YthoaneleeabadaaGreatD8
import Derived.Test.YthoaneleeabadaaGreatA13
import Derived.Test.YthoaneleeabadaaGreatA11
import Derived.Test.YthoaneleeabadaaGreatA14
namespace Go.Proofs.YthoaneleeabadaaGreat
set_option linter.unusedSimpArgs false
set_option linter.unusedVariables false
open Go.Sx
set_option maxRecDepth 10000
def conP (o : List Int) : List Int × Int := if rightO o then (arcsL (numsL o), 0) else ([], 1)
def whoP (o : List Int) : List Int × Int := if rightO o then (wrapL (ofT 6) (arcsL (numsL o)), 0) else ([], 1)
theorem conO_len {o : List Int} (hr : rightO o = true) : (arcsL (numsL o)).length ≤ 186 := by
 obtain ⟨a, b, t, rfl, _, _, _, _, ht, _⟩ := right_nums hr
 have := arcsL_len (numsL (a :: b :: t))
 simp [numsL] at *
 omega
theorem conP_ok (o : List Int) (hl : o.length ≤ 1000000) : Ct Tryz.prog 108 [I64 o] [] (.tup [B8 (conP o).1, lv (.int .i64 (conP o).2)]) [] [] := by
 have h := contO_ok o hl
 unfold contO at h
 unfold conP
 split at h
 · rename_i hr; rw [if_pos hr]; exact h
 · rename_i hr; rw [if_neg hr]; exact h
theorem owrite_ok (o : List Int) (hl : o.length ≤ 1000000) : Ct Tryz.prog 59 [I64 o] [] (.tup [B8 (whoP o).1, lv (.int .i64 (whoP o).2)]) [] [] := by
 have hc := conP_ok o hl
 by_cases hr : rightO o = true
 · have e1 : conP o = (arcsL (numsL o), 0) := if_pos hr
   have e2 : whoP o = (wrapL (ofT 6) (arcsL (numsL o)), 0) := if_pos hr
   have hlen := conO_len hr
   rw [e1] at hc
   rw [e2]
   generalize arcsL (numsL o) = X at *
   have hwr := wrap_ok (ofT 6) [X] (by decide) (by simp) (by simp; omega)
   rw [show [X].flatten = X by simp] at hwr
   have hof := headof_ok 6
   generalize ofT 6 = t at *
   generalize wrapL t X = Y at *
   refine Ct_intro Tryz.func59 rfl rfl rfl rfl rfl (fun E hn hb => ?_)
   repeat (refine nst ?_)
   refine s_call0 (hc) rfl rfl rfl (by rw [hn]; rfl) rfl rfl (by exact vcs) rfl rfl rfl ?_
   repeat (refine nst ?_)
   refine W_cond rfl (by simp) (fun h1 => ?_) (fun h1 => ?_)
   · simp at h1
   repeat (refine nst ?_)
   refine s_call0 (hof) rfl rfl rfl (by rw [hn]; rfl) rfl rfl (by exact vcs) rfl rfl rfl ?_
   repeat (refine nst ?_)
   refine WL_q (opq_of (opy_lit (d := (.recs 1 [[.ints .u8 X]])) rfl (elt_mk Tryz.underlying76 rfl rfl) zok23 rfl (by exact vcs) rfl ⟨by decide, by decide, rfl, rfl⟩) rfl) (by rw [hn]; rfl) ?_
   refine s_call0 (hwr) rfl rfl rfl (by rw [hn]; rfl) rfl rfl (by exact vcs) rfl rfl rfl ?_
   repeat (refine nst ?_)
   exact rt1 []
 · have e1 : conP o = ([], 1) := if_neg hr
   have e2 : whoP o = ([], 1) := if_neg hr
   rw [e1] at hc
   rw [e2]
   refine Ct_intro Tryz.func59 rfl rfl rfl rfl rfl (fun E hn hb => ?_)
   repeat (refine nst ?_)
   refine s_call0 (hc) rfl rfl rfl (by rw [hn]; rfl) rfl rfl (by exact vcs) rfl rfl rfl ?_
   repeat (refine nst ?_)
   refine W_cond rfl (by simp) (fun h1 => ?_) (fun h1 => ?_)
   · repeat (refine nst ?_)
     refine N_retU [] rfl (by simp) (r' := .tup [B8 [], lv (.int .i64 1)]) ⟨.inr ⟨rfl, .inl ⟨_, rfl⟩⟩, .inl rfl, trivial⟩ ⟨rfl, trivial, trivial, rfl⟩ hb rfl trivial
   · simp at h1

theorem part_eq : ∀ {a b : List Int}, a.length = b.length → (partL a b = a.length ↔ a = b)
 | [], [], _ => by simp [partL]
 | [], _ :: _, h => by simp at h
 | _ :: _, [], h => by simp at h
 | x :: a, y :: b, h => by
   have ih := part_eq (a := a) (b := b) (by simpa using h)
   unfold partL
   by_cases e : x = y
   · subst e
     rw [if_pos rfl]
     simp [ih]
   · rw [if_neg e]
     simp [e]
theorem equal_ok (a b : List Int) (ha : a.length ≤ 1000000) (hb' : b.length ≤ 1000000) : Ct Tryz.prog 112 [B8 a, B8 b] [] (lv (.bool (decide (a = b)))) [] [] := by
 have hp := parted_ok a b ha hb'
 by_cases hl : a.length = b.length
 · have he := part_eq hl
   refine Ct_intro Tryz.func112 rfl rfl rfl rfl rfl (fun E hn hb => ?_)
   repeat refine nx ?_
   refine rt2 [] (congrArg (fun x => lv (.bool x)) ?_) trivial
   by_cases e : a = b
   · have h2 := he.2 e
     subst e
     simp [h2]
   · have h2 : ¬ partL a b = a.length := fun h => e (he.1 h)
     simp [e, hl]
     rw [hl] at h2
     omega
 · have hne : a ≠ b := fun e => hl (by rw [e])
   rw [decide_eq_false hne]
   refine Ct_intro Tryz.func112 rfl rfl rfl rfl rfl (fun E hn hb => ?_)
   repeat refine nx ?_
   refine rt2 [] (congrArg (fun x => lv (.bool x)) ?_) trivial
   have : ¬ ((a.length : Int) = b.length) := by omega
   simp
   intro h
   exact absurd h this
def wrG (o m : List Int) : List Int × Int := if rightG o m = true then (wrapL (ofT 16) (wrapL (ofT 6) (arcsL (numsL o)) ++ m), 0) else ([], 1)
theorem rightG_o {o m : List Int} (h : rightG o m = true) : rightO o = true := by unfold rightG at h; simp at h; exact h.1
theorem whole_len {o : List Int} (hr : rightO o = true) : (wrapL (ofT 6) (arcsL (numsL o))).length ≤ 206 := by
 have h1 := conO_len hr
 have h2 := wrap_len (ofT 6) (arcsL (numsL o))
 omega
theorem wralg_ok (o m : List Int) (ho : o.length ≤ 1000000) (hm : m.length ≤ 100000) (hw : WfB m) : Ct Tryz.prog 11 [algA o m] [] (.tup [B8 (wrG o m).1, lv (.int .i64 (wrG o m).2)]) [] [] := by
 have hra := rightalg_ok o m ho hm hw
 unfold wrG
 cases hg : rightG o m with
 | false =>
   rw [hg] at hra
   rw [if_neg (by simp)]
   refine Ct_intro Tryz.func11 rfl rfl rfl rfl rfl (fun E hn hb => ?_)
   repeat refine nx ?_
   exact rtU []
 | true =>
   rw [hg] at hra
   rw [if_pos rfl]
   have hro := rightG_o hg
   have how := owrite_ok o ho
   unfold whoP at how
   rw [if_pos hro] at how
   have hwl := whole_len hro
   have hsq := sequence_ok [wrapL (ofT 6) (arcsL (numsL o)), m] (by simp) (by simp; omega)
   rw [show [wrapL (ofT 6) (arcsL (numsL o)), m].flatten = wrapL (ofT 6) (arcsL (numsL o)) ++ m by simp] at hsq
   generalize wrapL (ofT 6) (arcsL (numsL o)) = W at *
   refine Ct_intro Tryz.func11 rfl rfl rfl rfl rfl (fun E hn hb => ?_)
   repeat refine nx ?_
   exact rt1 []
theorem samealg_ok (o m o' m' : List Int) (ho : o.length ≤ 1000000) (hm : m.length ≤ 100000) (hw : WfB m) (ho' : o'.length ≤ 1000000) (hm' : m'.length ≤ 100000) (hw' : WfB m') (hr : rightG o m = true) (hr' : rightG o' m' = true) :
   Ct Tryz.prog 66 [algA o m, algA o' m'] [] (lv (.bool (decide ((wrG o m).1 = (wrG o' m').1)))) [] [] := by
 have h1 := wralg_ok o m ho hm hw
 have h2 := wralg_ok o' m' ho' hm' hw'
 have w1 := whole_len (rightG_o hr)
 have w2 := whole_len (rightG_o hr')
 unfold wrG at *
 rw [if_pos hr] at *
 rw [if_pos hr'] at *
 have l1 := wrap_len (ofT 16) (wrapL (ofT 6) (arcsL (numsL o)) ++ m)
 have l2 := wrap_len (ofT 16) (wrapL (ofT 6) (arcsL (numsL o')) ++ m')
 rw [List.length_append] at l1 l2
 dsimp only at *
 generalize wrapL (ofT 16) (wrapL (ofT 6) (arcsL (numsL o)) ++ m) = X at *
 generalize wrapL (ofT 16) (wrapL (ofT 6) (arcsL (numsL o')) ++ m') = Y at *
 have heq := equal_ok X Y (by omega) (by omega)
 refine Ct_intro Tryz.func66 rfl rfl rfl rfl rfl (fun E hn hb => ?_)
 repeat refine nx ?_
 refine rt2 [] (congrArg (fun x => lv (.bool x)) ?_) trivial
 rfl
theorem wrnull_ok : Ct Tryz.prog 72 [] [] (B8 [5, 0]) [] [] := by
 refine Ct_intro Tryz.func72 rfl rfl rfl rfl rfl (fun E hn hb => ?_)
 repeat refine nx ?_
 exact rt1 []
theorem hmac_ok : Ct Tryz.prog 20 [] [] (algA [1, 2, 840, 113549, 2, 9] [5, 0]) [] [] := by
 have h := wrnull_ok
 refine Ct_intro Tryz.func20 rfl rfl rfl rfl rfl (fun E hn hb => ?_)
 repeat refine nx ?_
 exact rt1 []

theorem ex_r2 : rightG [1, 2, 840, 113549, 2, 9] [5, 0] = true := by decide +kernel
theorem wf18 {l : List Int} (h : (l.all fun x => decide (0 ≤ x) && decide (x < 256)) = true) : WfB l := fun x hx => by
 have := List.all_eq_true.1 h x hx
 simpa using this

theorem ofalg_ok (o m : List Int) : Ct Tryz.prog 19 [algA o m] [] (algA o m) [] [] := by
 refine Ct_intro Tryz.func19 rfl rfl rfl rfl rfl (fun E hn hb => ?_)
 repeat refine nx ?_
 exact rt1 []

theorem num_back {l : List Int} {p q : Nat} {N : Int} (hw : WfB l) (h : numP l 3 p 0 = (N, q, 0)) : 31 ≤ N ∧ N < 2097152 ∧ l.drop p = refD N ++ l.drop q := by
 have w1 := wf_at hw p
 have w2 := wf_at hw (p + 1)
 have w3 := wf_at hw (p + 1 + 1)
 have e1 := drop_at l p
 have e2 := drop_at l (p + 1)
 have e3 := drop_at l (p + 1 + 1)
 rw [numP] at h
 generalize l.getD p 0 = d1 at *
 by_cases h1 : p < l.length
 · rw [if_pos h1] at h
   by_cases c1 : 2 = 2 ∧ d1 = 128
   · rw [if_pos c1] at h; simp at h
   · rw [if_neg c1] at h
     by_cases c2 : d1 < 128
     · rw [if_pos c2] at h
       by_cases c3 : 128 * 0 + d1 % 128 < 31
       · rw [if_pos c3] at h; simp at h
       · rw [if_neg c3] at h
         simp only [Prod.mk.injEq] at h
         obtain ⟨rfl, rfl, _⟩ := h
         refine ⟨by omega, by omega, ?_⟩
         unfold refD
         rw [if_neg (by omega), if_neg (by omega), e1 h1, show (128 * 0 + d1 % 128) % 128 = d1 by omega]
         rfl
     · rw [if_neg c2] at h
       rw [numP] at h
       generalize l.getD (p + 1) 0 = d2 at *
       by_cases h2 : p + 1 < l.length
       · rw [if_pos h2, if_neg (by omega)] at h
         by_cases c4 : d2 < 128
         · rw [if_pos c4] at h
           by_cases c5 : 128 * (128 * 0 + d1 % 128) + d2 % 128 < 31
           · rw [if_pos c5] at h; simp at h
           · rw [if_neg c5] at h
             simp only [Prod.mk.injEq] at h
             obtain ⟨rfl, rfl, _⟩ := h
             refine ⟨by omega, by omega, ?_⟩
             have hN : 128 * (128 * 0 + d1 % 128) + d2 % 128 = 128 * (d1 - 128) + d2 := by omega
             rw [hN]
             unfold refD
             rw [if_neg (by omega), if_pos (by omega), e1 h1, e2 h2, show 128 + (128 * (d1 - 128) + d2) / 128 % 128 = d1 by omega, show (128 * (d1 - 128) + d2) % 128 = d2 by omega]
             rfl
         · rw [if_neg c4] at h
           rw [numP] at h
           generalize l.getD (p + 1 + 1) 0 = d3 at *
           by_cases h3 : p + 1 + 1 < l.length
           · rw [if_pos h3, if_neg (by omega)] at h
             by_cases c6 : d3 < 128
             · rw [if_pos c6] at h
               by_cases c7 : 128 * (128 * (128 * 0 + d1 % 128) + d2 % 128) + d3 % 128 < 31
               · rw [if_pos c7] at h; simp at h
               · rw [if_neg c7] at h
                 simp only [Prod.mk.injEq] at h
                 obtain ⟨rfl, rfl, _⟩ := h
                 refine ⟨by omega, by omega, ?_⟩
                 have hN : 128 * (128 * (128 * 0 + d1 % 128) + d2 % 128) + d3 % 128 = 16384 * (d1 - 128) + 128 * (d2 - 128) + d3 := by omega
                 rw [hN]
                 unfold refD
                 rw [if_pos (by omega), if_pos (by omega), e1 h1, e2 h2, e3 h3, show 128 + (16384 * (d1 - 128) + 128 * (d2 - 128) + d3) / 16384 = d1 by omega, show 128 + (16384 * (d1 - 128) + 128 * (d2 - 128) + d3) / 128 % 128 = d2 by omega, show (16384 * (d1 - 128) + 128 * (d2 - 128) + d3) % 128 = d3 by omega]
                 rfl
             · rw [if_neg c6] at h
               rw [numP] at h
               split at h <;> simp at h
           · rw [if_neg h3] at h; simp at h
       · rw [if_neg h2] at h; simp at h
 · rw [if_neg h1] at h; simp at h
theorem tag_back {l : List Int} {p q : Nat} {t : TagP} (hw : WfB l) (h : tagP l p = (t, q, 0)) : rightT t = true ∧ l.drop p = tgL t ++ l.drop q := by
 have hr : rawT l p = (t, q, 0) := by
   unfold tagP keepP at h
   split at h
   · exact h
   · rename_i h1
     simp only [Prod.mk.injEq] at h
     exact absurd h.2.2 h1
 have w1 := wf_at hw p
 have e1 := drop_at l p
 unfold rawT at hr
 generalize l.getD p 0 = c at *
 by_cases hp : p < l.length
 · rw [if_pos hp] at hr
   have hfi : ∀ n : Int, firstI (c / 64, n, decide (c / 32 % 2 = 1)) = 64 * (c / 64) + 32 * (c / 32 % 2) := by
     intro n
     unfold firstI
     dsimp only
     by_cases hb : c / 32 % 2 = 1
     · rw [decide_eq_true hb, hb]; rfl
     · rw [decide_eq_false hb]
       have : c / 32 % 2 = 0 := by omega
       rw [this]; rfl
   by_cases h31 : c % 32 = 31
   · rw [if_pos h31] at hr
     generalize hn : numP l 3 (p + 1) 0 = R at *
     obtain ⟨N, q2, e⟩ := R
     simp only [Prod.mk.injEq] at hr
     obtain ⟨rfl, rfl, rfl⟩ := hr
     obtain ⟨n1, n2, n3⟩ := num_back hw hn
     refine ⟨by simp [rightT]; omega, ?_⟩
     have hR := refD_eq N.toNat (by omega) (by omega)
     rw [show ((N.toNat : Nat) : Int) = N by omega] at hR
     unfold tgL
     dsimp only
     rw [if_neg (by omega), hfi, ← hR, e1 hp, n3]
     have : 64 * (c / 64) + 32 * (c / 32 % 2) + 31 = c := by omega
     rw [this]
     rfl
   · rw [if_neg h31] at hr
     simp only [Prod.mk.injEq] at hr
     obtain ⟨rfl, rfl, _⟩ := hr
     refine ⟨by simp [rightT]; omega, ?_⟩
     unfold tgL
     dsimp only
     rw [if_pos (by omega), hfi, e1 hp]
     have : 64 * (c / 64) + 32 * (c / 32 % 2) + c % 32 = c := by omega
     rw [this]
     rfl
 · rw [if_neg hp] at hr; simp at hr
theorem len_back {l : List Int} {p q : Nat} {n : Int} (hw : WfB l) (h : lenP l p = (n, q, 0)) : 0 ≤ n ∧ n ≤ 16777216 ∧ l.drop p = lenL n.toNat ++ l.drop q := by
 have hr : rawL l p = (n, q, 0) := by
   unfold lenP keepP at h
   split at h
   · exact h
   · rename_i h1
     simp only [Prod.mk.injEq] at h
     exact absurd h.2.2 h1
 have w0 := wf_at hw p
 have w1 := wf_at hw (p + 1)
 have w2 := wf_at hw (p + 1 + 1)
 have w3 := wf_at hw (p + 1 + 1 + 1)
 have w4 := wf_at hw (p + 1 + 1 + 1 + 1)
 have e0 := drop_at l p
 have e1 := drop_at l (p + 1)
 have e2 := drop_at l (p + 1 + 1)
 have e3 := drop_at l (p + 1 + 1 + 1)
 have e4 := drop_at l (p + 1 + 1 + 1 + 1)
 unfold rawL at hr
 by_cases hp : p < l.length
 · rw [if_pos hp] at hr
   generalize l.getD p 0 = c at *
   by_cases h1 : c < 128
   · rw [if_pos h1] at hr
     simp only [Prod.mk.injEq] at hr
     obtain ⟨rfl, rfl, _⟩ := hr
     refine ⟨by omega, by omega, ?_⟩
     unfold lenL
     rw [if_pos (by omega), e0 hp, show ((c.toNat : Nat) : Int) = c by omega]
     rfl
   · rw [if_neg h1] at hr
     by_cases h2 : c = 128 ∨ 132 < c
     · rw [if_pos h2] at hr; simp at hr
     · rw [if_neg h2] at hr
       unfold longP at hr
       by_cases h3 : l.length < p + 1 + (c % 128).toNat
       · rw [if_pos h3] at hr; simp at hr
       · rw [if_neg h3] at hr
         generalize l.getD (p + 1) 0 = d1 at *
         generalize l.getD (p + 1 + 1) 0 = d2 at *
         generalize l.getD (p + 1 + 1 + 1) 0 = d3 at *
         generalize l.getD (p + 1 + 1 + 1 + 1) 0 = d4 at *
         have hc : c = 129 ∨ c = 130 ∨ c = 131 ∨ c = 132 := by omega
         have fin : ∀ (k : Nat) (D : List Int), l.drop (p + 1) = D ++ l.drop (p + 1 + k) → D.length = k → (c % 128).toNat = k → (0 ≤ valA 0 D) → (128 ≤ valA 0 D → valA 0 D ≤ 16777216 → d1 ≠ 0 → refLenL (valA 0 D) = c :: D) → 0 ≤ n ∧ n ≤ 16777216 ∧ l.drop p = lenL n.toNat ++ l.drop q := by
           intro k D hD hk hck h0 href
           rw [hck, show (l.drop (p + 1)).take k = D by rw [hD, ← hk, List.take_left]] at hr
           by_cases h4 : d1 = 0 ∨ valA 0 D < 128
           · rw [if_pos h4] at hr; simp at hr
           · rw [if_neg h4] at hr
             by_cases h5 : 16777216 < valA 0 D
             · rw [if_pos h5] at hr; simp at hr
             · rw [if_neg h5] at hr
               simp only [Prod.mk.injEq] at hr
               obtain ⟨rfl, rfl, _⟩ := hr
               refine ⟨h0, by omega, ?_⟩
               rw [← refLen_eq _ (by omega), show (((valA 0 D).toNat : Nat) : Int) = valA 0 D by omega, href (by omega) (by omega) (by omega), e0 hp, hD]
               rfl
         rcases hc with rfl | rfl | rfl | rfl
         · have q1 : p + 1 < l.length := by omega
           refine fin 1 [d1] (by rw [e1 q1]; rfl) rfl (by decide) (by simp [valA]; omega) (fun a1 a2 a3 => ?_)
           simp only [valA] at a1 a2 ⊢
           unfold refLenL
           rw [if_neg (by omega), if_pos (by omega)]
           simp
         · have q1 : p + 1 < l.length := by omega
           have q2 : p + 1 + 1 < l.length := by omega
           refine fin 2 [d1, d2] (by rw [e1 q1, e2 q2]; rfl) rfl (by decide) (by simp [valA]; omega) (fun a1 a2 a3 => ?_)
           simp only [valA] at a1 a2 ⊢
           unfold refLenL
           rw [if_neg (by omega), if_neg (by omega), if_pos (by omega)]
           simp; omega
         · have q1 : p + 1 < l.length := by omega
           have q2 : p + 1 + 1 < l.length := by omega
           have q3 : p + 1 + 1 + 1 < l.length := by omega
           refine fin 3 [d1, d2, d3] (by rw [e1 q1, e2 q2, e3 q3]; rfl) rfl (by decide) (by simp [valA]; omega) (fun a1 a2 a3 => ?_)
           simp only [valA] at a1 a2 ⊢
           unfold refLenL
           rw [if_neg (by omega), if_neg (by omega), if_neg (by omega), if_pos (by omega)]
           simp; omega
         · have q1 : p + 1 < l.length := by omega
           have q2 : p + 1 + 1 < l.length := by omega
           have q3 : p + 1 + 1 + 1 < l.length := by omega
           have q4 : p + 1 + 1 + 1 + 1 < l.length := by omega
           refine fin 4 [d1, d2, d3, d4] (by rw [e1 q1, e2 q2, e3 q3, e4 q4]; rfl) rfl (by decide) (by simp [valA]; omega) (fun a1 a2 a3 => ?_)
           simp only [valA] at a1 a2 ⊢
           unfold refLenL
           rw [if_neg (by omega), if_neg (by omega), if_neg (by omega), if_neg (by omega)]
           simp; omega
 · rw [if_neg hp] at hr; simp at hr
theorem read_back {l : List Int} {p q : Nat} {t : TagP} {n : Int} (hw : WfB l) (h : readP l p = ((t, n), q, 0)) : rightT t = true ∧ 0 ≤ n ∧ n ≤ 16777216 ∧ l.drop p = tgL t ++ (lenL n.toNat ++ l.drop q) := by
 have hr : rawF l p = ((t, n), q, 0) := by
   unfold readP keepP at h
   split at h
   · exact h
   · rename_i h1
     simp only [Prod.mk.injEq] at h
     exact absurd h.2.2 h1
 unfold rawF at hr
 generalize ht : tagP l p = T at *
 obtain ⟨t1, q1, e1⟩ := T
 dsimp only at hr
 by_cases he : e1 = 0
 · subst he
   rw [if_pos rfl] at hr
   generalize hl : lenP l q1 = L at *
   obtain ⟨n1, q2, e2⟩ := L
   simp only [Prod.mk.injEq] at hr
   obtain ⟨⟨rfl, rfl⟩, rfl, rfl⟩ := hr
   obtain ⟨a1, a2⟩ := tag_back hw ht
   obtain ⟨b1, b2, b3⟩ := len_back hw hl
   exact ⟨a1, b1, b2, by rw [a2, b3]⟩
 · rw [if_neg he] at hr
   simp only [Prod.mk.injEq] at hr
   exact absurd hr.2.2 he

theorem snoc_inj {a b : List Int} {x y : Int} (h : a ++ [x] = b ++ [y]) : a = b ∧ x = y := by
 have := List.append_inj' h rfl
 exact ⟨this.1, by simpa using this.2⟩

theorem rightS_u {u : Int} {l : List Int} (h : rightS u l = true) : 0 ≤ u ∧ u ≤ 7 := by
 unfold rightS at h
 by_cases h0 : l = []
 · rw [if_pos h0] at h; simp at h; omega
 · rw [if_neg h0] at h; simp at h; omega
theorem bcont_ok (u : Int) (l : List Int) (hl : l.length ≤ 1000000) (hw : WfB l) : Ct Tryz.prog 110 [bitA u l] [] (.tup [B8 (if rightS u l = true then u :: l else []), lv (.int .i64 (if rightS u l = true then 0 else 1))]) [] [] := by
 have hr := bright_ok u l hl hw
 cases hg : rightS u l with
 | false =>
   rw [hg] at hr
   rw [if_neg (by simp), if_neg (by simp)]
   refine Ct_intro Tryz.func110 rfl rfl rfl rfl rfl (fun E hn hb => ?_)
   repeat refine nx ?_
   exact rtU []
 | true =>
   rw [hg] at hr
   have hu := rightS_u hg
   rw [if_pos rfl, if_pos rfl]
   refine Ct_intro Tryz.func110 rfl rfl rfl rfl rfl (fun E hn hb => ?_)
   repeat (first | refine lo1 ?_ | refine nx ?_)
   refine frzN 2 ?_
   exact rt1 []
def wrS (u : Int) (l : List Int) : List Int × Int := if rightS u l = true then (wrapL (ofT 3) (u :: l), 0) else ([], 1)
theorem bwrite_ok (u : Int) (l : List Int) (hl : l.length ≤ 100000) (hw : WfB l) : Ct Tryz.prog 61 [bitA u l] [] (.tup [B8 (wrS u l).1, lv (.int .i64 (wrS u l).2)]) [] [] := by
 have hc := bcont_ok u l (by omega) hw
 have h1 := headof_ok 3
 unfold wrS
 cases hg : rightS u l with
 | false =>
   rw [hg, if_neg (by simp), if_neg (by simp)] at hc
   rw [if_neg (by simp)]
   refine Ct_intro Tryz.func61 rfl rfl rfl rfl rfl (fun E hn hb => ?_)
   repeat refine nx ?_
   exact rtU []
 | true =>
   rw [hg, if_pos rfl, if_pos rfl] at hc
   rw [if_pos rfl]
   have h2 := wrap_ok (ofT 3) [u :: l] (by decide) (by simp) (by simp; omega)
   rw [show [u :: l].flatten = u :: l by simp] at h2
   refine Ct_intro Tryz.func61 rfl rfl rfl rfl rfl (fun E hn hb => ?_)
   repeat refine nx ?_
   exact rt1 []
theorem rightS_zero (l : List Int) : rightS 0 l = true := by
 unfold rightS
 split
 · simp
 · simp

theorem wfl_take {l : List Int} (h : WfB l) (n : Nat) : WfB (l.take n) := fun x hx => h x (List.mem_of_mem_take hx)
end Go.Proofs.YthoaneleeabadaaGreat

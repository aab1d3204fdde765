/-
  Build: sheets: one frame, opened and shut. The conditions: rows that a machine can hold.
-/
import Derived.Test.YtaagjnlkinojcaaGreatDoorC13
import Derived.Test.YtaagjnlkinojcaaGreatDoorA5
import Derived.Test.YtaagjnlkinojcaaGreatDoorSxX
import Derived.Test.YtaagjnlkinojcaaGreatDoorSxI
import Derived.Test.YtaagjnlkinojcaaGreatDoorW19
import Derived.Test.YtaagjnlkinojcaaGreatDoorC4
import Derived.Test.YtaagjnlkinojcaaGreatDoorSxQ
namespace Go.Proofs.YtaagjnlkinojcaaGreatDoor
set_option linter.unusedSimpArgs false
set_option linter.unusedVariables false
open Go.Sx
set_option maxRecDepth 10000
def hexV (c : Int) : Int := if 48 ≤ c ∧ c ≤ 57 then c - 48 else if 97 ≤ c ∧ c ≤ 102 then c - 97 + 10 else 16
theorem value_ok (c : Int) (hc : 0 ≤ c ∧ c < 256) : Ct Tryz.prog 86 [lv (.int .u8 c)] [] (lv (.int .u8 (hexV c))) [] [] := by
 unfold hexV
 by_cases h1 : 48 ≤ c ∧ c ≤ 57
 · rw [if_pos h1]
   refine Ct_intro Tryz.func86 rfl rfl rfl rfl rfl (fun E hn hb => ?_)
   repeat refine nx ?_
   exact rt1 []
 · rw [if_neg h1]
   by_cases h2 : 97 ≤ c ∧ c ≤ 102
   · rw [if_pos h2]
     refine Ct_intro Tryz.func86 rfl rfl rfl rfl rfl (fun E hn hb => ?_)
     repeat refine nx ?_
     exact rt1 []
   · rw [if_neg h2]
     refine Ct_intro Tryz.func86 rfl rfl rfl rfl rfl (fun E hn hb => ?_)
     repeat refine nx ?_
     exact rt1 []
def unhL (l : List Int) (k : Nat) : List Int := (List.range k).map fun j => 16 * hexV (l.getD (2 * j) 0) + hexV (l.getD (2 * j + 1) 0)
theorem unh_next (l : List Int) (k : Nat) : unhL l (k + 1) = unhL l k ++ [16 * hexV (l.getD (2 * k) 0) + hexV (l.getD (2 * k + 1) 0)] := by
 unfold unhL
 rw [List.range_succ, List.map_append]
 rfl
theorem orHx : ∀ x : Fin 16, ∀ y : Fin 16, IntKind.u8.wrap (BitVec.ofInt IntKind.u8.bits (((x.val : Nat) : Int) * 2 ^ min (Int.toNat 4) IntKind.u8.bits) ||| BitVec.ofInt IntKind.u8.bits ((y.val : Nat) : Int)).toNat = 16 * ((x.val : Nat) : Int) + ((y.val : Nat) : Int) := by decide +kernel
theorem orH {X Y : Int} (hx : X ≤ 15 ∧ 0 ≤ X) (hy : Y ≤ 15 ∧ 0 ≤ Y) : IntKind.u8.wrap (BitVec.ofInt IntKind.u8.bits (X * 2 ^ min (Int.toNat 4) IntKind.u8.bits) ||| BitVec.ofInt IntKind.u8.bits Y).toNat = 16 * X + Y := by
 obtain ⟨x, rfl⟩ : ∃ x : Nat, X = x := ⟨X.toNat, by omega⟩
 obtain ⟨y, rfl⟩ : ∃ y : Nat, Y = y := ⟨Y.toNat, by omega⟩
 exact orHx ⟨x, by omega⟩ ⟨y, by omega⟩
theorem unhex_ok (l : List Int) (n : Nat) (hn2 : l.length = 2 * n) (hl : l.length ≤ 1000) (hw : ∀ x ∈ l, 0 ≤ x ∧ x < 256) (hx : ∀ i, i < l.length → hexV (l.getD i 0) ≤ 15 ∧ 0 ≤ hexV (l.getD i 0)) :
   Ct Tryz.prog 47 [lv (.string (strOfNums l))] [] (.tup [B8 (unhL l n), lv (.int .i64 0)]) [] [] := by
 have hs : (strOfNums l).size = l.length := strOfNums_size l
 refine Ct_intro Tryz.func47 rfl rfl rfl rfl rfl (fun E hn hb => ?_)
 repeat refine nx ?_
 refine s_makeI (by_ := 1) rfl rfl rfl (by rw [hn]; rfl) (elt_mk Tryz.underlying22 rfl rfl) rfl rfl rfl (by exact vcs) 0 (by first | rfl | (simp; done) | omega) (by first | (simp; done) | omega | (simp at *; omega)) ?_
 repeat refine nx ?_
 refine W_weaken (St.le_of (l := [(0, lv (.string (strOfNums l))), (4, .c (.own 79 1 0 (unhL l 0).length)), (5, lv (.int .i64 ((2 * 0 : Nat) : Int)))]) (h := [(79, .row (.ints .u8 (unhL l 0)))]) (by refine ⟨?_, ?_⟩ <;> (repeat' (first | exact trivial | exact rfl | refine ⟨?_, ?_⟩)) <;> first | exact rfl | (simp; done) | skip)) ?_
 refine W_loop (ι := {k : Nat // k ≤ n}) (fun k => St.of [(0, lv (.string (strOfNums l))), (4, .c (.own 79 1 0 (unhL l k.1).length)), (5, lv (.int .i64 ((2 * k.1 : Nat) : Int)))] [(79, .row (.ints .u8 (unhL l k.1)))]) (fun k => n - k.1) (fun k => ?_) ⟨0, Nat.zero_le _⟩
 obtain ⟨k, hk⟩ := k
 dsimp only
 by_cases hk2 : k < n
 · have h1 := hx (2 * k) (by omega)
   have h2 := hx (2 * k + 1) (by omega)
   have ul : (unhL l k).length = k := by simp [unhL]
   repeat refine nx ?_
   have e1 : (bs (strOfNums l)).getD ((2 * k : Nat) : Int).toNat 0 = l.getD (2 * k) 0 := by rw [bsN hw, Int.toNat_natCast]
   have e2 : (bs (strOfNums l)).getD (((2 * k : Nat) : Int) + 1).toNat 0 = l.getD (2 * k + 1) 0 := by rw [bsN hw, show (((2 * k : Nat) : Int) + 1).toNat = 2 * k + 1 by omega]
   have b1 : 0 ≤ l.getD (2 * k) 0 ∧ l.getD (2 * k) 0 < 256 := wf_at hw _
   have b2 : 0 ≤ l.getD (2 * k + 1) 0 ∧ l.getD (2 * k + 1) 0 < 256 := wf_at hw _
   refine duc1 (hF := value_ok _ ?c1) ?k1
   case c1 => rw [e1]; exact b1
   repeat refine nx ?_
   refine duc1 (hF := value_ok _ ?c2) ?k2
   case c2 => rw [e2]; exact b2
   repeat refine nx ?_
   rw [e1, e2]
   have hnx := unh_next l k
   generalize hexV (l.getD (2 * k) 0) = X at *
   generalize hexV (l.getD (2 * k + 1) 0) = Y at *
   repeat refine nx ?_
   rw [orH h1 h2, ← hnx]
   have e3 : ((2 * k : Nat) : Int) + 2 = ((2 * (k + 1) : Nat) : Int) := by omega
   rw [e3]
   refine N_round ⟨k + 1, by omega⟩ (by dsimp only; omega) (St.le_of ⟨⟨rfl, rfl, rfl⟩, rfl⟩)
 · obtain rfl : k = n := by omega
   repeat refine nx ?_
   refine frzN 2 ?_
   exact rt1 []

theorem wrap_len (t : TagP) (X : List Int) : (wrapL t X).length ≤ X.length + 20 := by
 have h1 := lowD_len 128 5 t.2.1.toNat
 have h2 := lowD_len 256 5 X.length
 have hT5 : (tgL t).length ≤ 10 := by
   unfold tgL
   split
   · simp
   · simp [hiL_len]; omega
 have hL5 : (lenL X.length).length ≤ 10 := by
   generalize X.length = n at *
   unfold lenL
   split
   · simp
   · simp; omega
 simp only [wrapL, List.length_append]
 omega

theorem headat_ok (n : Int) (b : Bool) : Ct Tryz.prog 64 [lv (.int .i64 n), lv (.bool b)] [] (tagA (2, n, b)) [] [] := by
 refine Ct_intro Tryz.func64 rfl rfl rfl rfl rfl (fun E hn hb => ?_)
 repeat refine nx ?_
 exact rt1 []
theorem refat2_ok (n : Int) (b : Bool) : Ct Tryz.prog 29 [lv (.int .i64 n), lv (.bool b)] [] (tagA (2, n, b)) [] [] := by
 refine Ct_intro Tryz.func29 rfl rfl rfl rfl rfl (fun E hn hb => ?_)
 repeat refine nx ?_
 exact rt1 []

theorem tbytes_err (t : TagP) (h : rightT t = false) : Ct Tryz.prog 123 [tagA t] [] (.tup [B8 [], lv (.int .i64 1)]) [] [] := by
 have hr := headright_ok t
 rw [h] at hr
 refine Ct_intro Tryz.func123 rfl rfl rfl rfl rfl (fun E hn hb => ?_)
 repeat refine nx ?_
 exact rtU []
theorem wrap_err (t : TagP) (bs : List (List Int)) (h : rightT t = false) : Ct Tryz.prog 97 [tagA t, rowsA bs] [] (.tup [B8 [], lv (.int .i64 1)]) [] [] := by
 have hr := tbytes_err t h
 refine Ct_intro Tryz.func97 rfl rfl rfl rfl rfl (fun E hn hb => ?_)
 repeat refine nx ?_
 exact rtU []
def wrapR (t : TagP) (b : List Int) : List Int × Int := if rightT t = true then (wrapL t b, 0) else ([], 1)
theorem wrapR_ok (t : TagP) (bs : List (List Int)) (hbl : bs.length ≤ 100000) (hl : bs.flatten.length ≤ 1000000) :
   Ct Tryz.prog 97 [tagA t, rowsA bs] [] (.tup [B8 (wrapR t bs.flatten).1, lv (.int .i64 (wrapR t bs.flatten).2)]) [] [] := by
 unfold wrapR
 cases h : rightT t with
 | true => rw [if_pos rfl]; exact wrap_ok t bs h hbl hl
 | false => rw [if_neg (by simp)]; exact wrap_err t bs h
theorem explicit_ok (n : Int) (bs : List (List Int)) (hbl : bs.length ≤ 100000) (hl : bs.flatten.length ≤ 1000000) : Ct Tryz.prog 67 [lv (.int .i64 n), rowsA bs] [] (.tup [B8 (wrapR (2, n, true) bs.flatten).1, lv (.int .i64 (wrapR (2, n, true) bs.flatten).2)]) [] [] := by
 have h1 := headat_ok n true
 have h2 := wrapR_ok (2, n, true) bs hbl hl
 refine Ct_intro Tryz.func67 rfl rfl rfl rfl rfl (fun E hn hb => ?_)
 repeat refine nx ?_
 exact rt1 []

theorem readP_at (a b c : List Int) (t : TagP) (h : rightT t = true) (hb : b.length ≤ 16777216) : readP (a ++ (wrapL t b ++ c)) a.length = ((t, (b.length : Int)), a.length + (tgL t).length + (lenL b.length).length, 0) := by
 have e0 : wrapL t b ++ c = tgL t ++ (lenL b.length ++ (b ++ c)) := by simp [wrapL]
 have e1 := tagP_at a (lenL b.length ++ (b ++ c)) t h
 have e2 := lenP_at (a ++ tgL t) (b ++ c) b.length hb (.inr trivial)
 rw [e0]
 unfold readP rawF
 rw [e1]
 dsimp only
 rw [if_pos rfl, ← List.append_assoc, ← List.length_append, e2]
 rfl

theorem num_back {l : List Int} {p q : Nat} {N : Int} (hw : WfB l) (h : numP l 3 p 0 = (N, q, 0)) : 31 ≤ N ∧ N < 2097152 ∧ l.drop p = refD N ++ l.drop q := by
 have w1 := wf_at hw p
 have w2 := wf_at hw (p + 1)
 have w3 := wf_at hw (p + 1 + 1)
 have e1 := drop_at l p
 have e2 := drop_at l (p + 1)
 have e3 := drop_at l (p + 1 + 1)
 rw [numP] at h
 generalize l.getD p 0 = d1 at *
 by_cases h1 : p < l.length
 · rw [if_pos h1] at h
   by_cases c1 : 2 = 2 ∧ d1 = 128
   · rw [if_pos c1] at h; simp at h
   · rw [if_neg c1] at h
     by_cases c2 : d1 < 128
     · rw [if_pos c2] at h
       by_cases c3 : 128 * 0 + d1 % 128 < 31
       · rw [if_pos c3] at h; simp at h
       · rw [if_neg c3] at h
         simp only [Prod.mk.injEq] at h
         obtain ⟨rfl, rfl, _⟩ := h
         refine ⟨by omega, by omega, ?_⟩
         unfold refD
         rw [if_neg (by omega), if_neg (by omega), e1 h1, show (128 * 0 + d1 % 128) % 128 = d1 by omega]
         rfl
     · rw [if_neg c2] at h
       rw [numP] at h
       generalize l.getD (p + 1) 0 = d2 at *
       by_cases h2 : p + 1 < l.length
       · rw [if_pos h2, if_neg (by omega)] at h
         by_cases c4 : d2 < 128
         · rw [if_pos c4] at h
           by_cases c5 : 128 * (128 * 0 + d1 % 128) + d2 % 128 < 31
           · rw [if_pos c5] at h; simp at h
           · rw [if_neg c5] at h
             simp only [Prod.mk.injEq] at h
             obtain ⟨rfl, rfl, _⟩ := h
             refine ⟨by omega, by omega, ?_⟩
             have hN : 128 * (128 * 0 + d1 % 128) + d2 % 128 = 128 * (d1 - 128) + d2 := by omega
             rw [hN]
             unfold refD
             rw [if_neg (by omega), if_pos (by omega), e1 h1, e2 h2, show 128 + (128 * (d1 - 128) + d2) / 128 % 128 = d1 by omega, show (128 * (d1 - 128) + d2) % 128 = d2 by omega]
             rfl
         · rw [if_neg c4] at h
           rw [numP] at h
           generalize l.getD (p + 1 + 1) 0 = d3 at *
           by_cases h3 : p + 1 + 1 < l.length
           · rw [if_pos h3, if_neg (by omega)] at h
             by_cases c6 : d3 < 128
             · rw [if_pos c6] at h
               by_cases c7 : 128 * (128 * (128 * 0 + d1 % 128) + d2 % 128) + d3 % 128 < 31
               · rw [if_pos c7] at h; simp at h
               · rw [if_neg c7] at h
                 simp only [Prod.mk.injEq] at h
                 obtain ⟨rfl, rfl, _⟩ := h
                 refine ⟨by omega, by omega, ?_⟩
                 have hN : 128 * (128 * (128 * 0 + d1 % 128) + d2 % 128) + d3 % 128 = 16384 * (d1 - 128) + 128 * (d2 - 128) + d3 := by omega
                 rw [hN]
                 unfold refD
                 rw [if_pos (by omega), if_pos (by omega), e1 h1, e2 h2, e3 h3, show 128 + (16384 * (d1 - 128) + 128 * (d2 - 128) + d3) / 16384 = d1 by omega, show 128 + (16384 * (d1 - 128) + 128 * (d2 - 128) + d3) / 128 % 128 = d2 by omega, show (16384 * (d1 - 128) + 128 * (d2 - 128) + d3) % 128 = d3 by omega]
                 rfl
             · rw [if_neg c6] at h
               rw [numP] at h
               split at h <;> simp at h
           · rw [if_neg h3] at h; simp at h
       · rw [if_neg h2] at h; simp at h
 · rw [if_neg h1] at h; simp at h
theorem tag_back {l : List Int} {p q : Nat} {t : TagP} (hw : WfB l) (h : tagP l p = (t, q, 0)) : rightT t = true ∧ l.drop p = tgL t ++ l.drop q := by
 have hr : rawT l p = (t, q, 0) := by
   unfold tagP keepP at h
   split at h
   · exact h
   · rename_i h1
     simp only [Prod.mk.injEq] at h
     exact absurd h.2.2 h1
 have w1 := wf_at hw p
 have e1 := drop_at l p
 unfold rawT at hr
 generalize l.getD p 0 = c at *
 by_cases hp : p < l.length
 · rw [if_pos hp] at hr
   have hfi : ∀ n : Int, firstI (c / 64, n, decide (c / 32 % 2 = 1)) = 64 * (c / 64) + 32 * (c / 32 % 2) := by
     intro n
     unfold firstI
     dsimp only
     by_cases hb : c / 32 % 2 = 1
     · rw [decide_eq_true hb, hb]; rfl
     · rw [decide_eq_false hb]
       have : c / 32 % 2 = 0 := by omega
       rw [this]; rfl
   by_cases h31 : c % 32 = 31
   · rw [if_pos h31] at hr
     generalize hn : numP l 3 (p + 1) 0 = R at *
     obtain ⟨N, q2, e⟩ := R
     simp only [Prod.mk.injEq] at hr
     obtain ⟨rfl, rfl, rfl⟩ := hr
     obtain ⟨n1, n2, n3⟩ := num_back hw hn
     refine ⟨by simp [rightT]; omega, ?_⟩
     have hR := refD_eq N.toNat (by omega) (by omega)
     rw [show ((N.toNat : Nat) : Int) = N by omega] at hR
     unfold tgL
     dsimp only
     rw [if_neg (by omega), hfi, ← hR, e1 hp, n3]
     have : 64 * (c / 64) + 32 * (c / 32 % 2) + 31 = c := by omega
     rw [this]
     rfl
   · rw [if_neg h31] at hr
     simp only [Prod.mk.injEq] at hr
     obtain ⟨rfl, rfl, _⟩ := hr
     refine ⟨by simp [rightT]; omega, ?_⟩
     unfold tgL
     dsimp only
     rw [if_pos (by omega), hfi, e1 hp]
     have : 64 * (c / 64) + 32 * (c / 32 % 2) + c % 32 = c := by omega
     rw [this]
     rfl
 · rw [if_neg hp] at hr; simp at hr
theorem len_back {l : List Int} {p q : Nat} {n : Int} (hw : WfB l) (h : lenP l p = (n, q, 0)) : 0 ≤ n ∧ n ≤ 16777216 ∧ l.drop p = lenL n.toNat ++ l.drop q := by
 have hr : rawL l p = (n, q, 0) := by
   unfold lenP keepP at h
   split at h
   · exact h
   · rename_i h1
     simp only [Prod.mk.injEq] at h
     exact absurd h.2.2 h1
 have w0 := wf_at hw p
 have w1 := wf_at hw (p + 1)
 have w2 := wf_at hw (p + 1 + 1)
 have w3 := wf_at hw (p + 1 + 1 + 1)
 have w4 := wf_at hw (p + 1 + 1 + 1 + 1)
 have e0 := drop_at l p
 have e1 := drop_at l (p + 1)
 have e2 := drop_at l (p + 1 + 1)
 have e3 := drop_at l (p + 1 + 1 + 1)
 have e4 := drop_at l (p + 1 + 1 + 1 + 1)
 unfold rawL at hr
 by_cases hp : p < l.length
 · rw [if_pos hp] at hr
   generalize l.getD p 0 = c at *
   by_cases h1 : c < 128
   · rw [if_pos h1] at hr
     simp only [Prod.mk.injEq] at hr
     obtain ⟨rfl, rfl, _⟩ := hr
     refine ⟨by omega, by omega, ?_⟩
     unfold lenL
     rw [if_pos (by omega), e0 hp, show ((c.toNat : Nat) : Int) = c by omega]
     rfl
   · rw [if_neg h1] at hr
     by_cases h2 : c = 128 ∨ 132 < c
     · rw [if_pos h2] at hr; simp at hr
     · rw [if_neg h2] at hr
       unfold longP at hr
       by_cases h3 : l.length < p + 1 + (c % 128).toNat
       · rw [if_pos h3] at hr; simp at hr
       · rw [if_neg h3] at hr
         generalize l.getD (p + 1) 0 = d1 at *
         generalize l.getD (p + 1 + 1) 0 = d2 at *
         generalize l.getD (p + 1 + 1 + 1) 0 = d3 at *
         generalize l.getD (p + 1 + 1 + 1 + 1) 0 = d4 at *
         have hc : c = 129 ∨ c = 130 ∨ c = 131 ∨ c = 132 := by omega
         have fin : ∀ (k : Nat) (D : List Int), l.drop (p + 1) = D ++ l.drop (p + 1 + k) → D.length = k → (c % 128).toNat = k → (0 ≤ valA 0 D) → (128 ≤ valA 0 D → valA 0 D ≤ 16777216 → d1 ≠ 0 → refLenL (valA 0 D) = c :: D) → 0 ≤ n ∧ n ≤ 16777216 ∧ l.drop p = lenL n.toNat ++ l.drop q := by
           intro k D hD hk hck h0 href
           rw [hck, show (l.drop (p + 1)).take k = D by rw [hD, ← hk, List.take_left]] at hr
           by_cases h4 : d1 = 0 ∨ valA 0 D < 128
           · rw [if_pos h4] at hr; simp at hr
           · rw [if_neg h4] at hr
             by_cases h5 : 16777216 < valA 0 D
             · rw [if_pos h5] at hr; simp at hr
             · rw [if_neg h5] at hr
               simp only [Prod.mk.injEq] at hr
               obtain ⟨rfl, rfl, _⟩ := hr
               refine ⟨h0, by omega, ?_⟩
               rw [← refLen_eq _ (by omega), show (((valA 0 D).toNat : Nat) : Int) = valA 0 D by omega, href (by omega) (by omega) (by omega), e0 hp, hD]
               rfl
         rcases hc with rfl | rfl | rfl | rfl
         · have q1 : p + 1 < l.length := by omega
           refine fin 1 [d1] (by rw [e1 q1]; rfl) rfl (by decide) (by simp [valA]; omega) (fun a1 a2 a3 => ?_)
           simp only [valA] at a1 a2 ⊢
           unfold refLenL
           rw [if_neg (by omega), if_pos (by omega)]
           simp
         · have q1 : p + 1 < l.length := by omega
           have q2 : p + 1 + 1 < l.length := by omega
           refine fin 2 [d1, d2] (by rw [e1 q1, e2 q2]; rfl) rfl (by decide) (by simp [valA]; omega) (fun a1 a2 a3 => ?_)
           simp only [valA] at a1 a2 ⊢
           unfold refLenL
           rw [if_neg (by omega), if_neg (by omega), if_pos (by omega)]
           simp; omega
         · have q1 : p + 1 < l.length := by omega
           have q2 : p + 1 + 1 < l.length := by omega
           have q3 : p + 1 + 1 + 1 < l.length := by omega
           refine fin 3 [d1, d2, d3] (by rw [e1 q1, e2 q2, e3 q3]; rfl) rfl (by decide) (by simp [valA]; omega) (fun a1 a2 a3 => ?_)
           simp only [valA] at a1 a2 ⊢
           unfold refLenL
           rw [if_neg (by omega), if_neg (by omega), if_neg (by omega), if_pos (by omega)]
           simp; omega
         · have q1 : p + 1 < l.length := by omega
           have q2 : p + 1 + 1 < l.length := by omega
           have q3 : p + 1 + 1 + 1 < l.length := by omega
           have q4 : p + 1 + 1 + 1 + 1 < l.length := by omega
           refine fin 4 [d1, d2, d3, d4] (by rw [e1 q1, e2 q2, e3 q3, e4 q4]; rfl) rfl (by decide) (by simp [valA]; omega) (fun a1 a2 a3 => ?_)
           simp only [valA] at a1 a2 ⊢
           unfold refLenL
           rw [if_neg (by omega), if_neg (by omega), if_neg (by omega), if_neg (by omega)]
           simp; omega
 · rw [if_neg hp] at hr; simp at hr
theorem read_back {l : List Int} {p q : Nat} {t : TagP} {n : Int} (hw : WfB l) (h : readP l p = ((t, n), q, 0)) : rightT t = true ∧ 0 ≤ n ∧ n ≤ 16777216 ∧ l.drop p = tgL t ++ (lenL n.toNat ++ l.drop q) := by
 have hr : rawF l p = ((t, n), q, 0) := by
   unfold readP keepP at h
   split at h
   · exact h
   · rename_i h1
     simp only [Prod.mk.injEq] at h
     exact absurd h.2.2 h1
 unfold rawF at hr
 generalize ht : tagP l p = T at *
 obtain ⟨t1, q1, e1⟩ := T
 dsimp only at hr
 by_cases he : e1 = 0
 · subst he
   rw [if_pos rfl] at hr
   generalize hl : lenP l q1 = L at *
   obtain ⟨n1, q2, e2⟩ := L
   simp only [Prod.mk.injEq] at hr
   obtain ⟨⟨rfl, rfl⟩, rfl, rfl⟩ := hr
   obtain ⟨a1, a2⟩ := tag_back hw ht
   obtain ⟨b1, b2, b3⟩ := len_back hw hl
   exact ⟨a1, b1, b2, by rw [a2, b3]⟩
 · rw [if_neg he] at hr
   simp only [Prod.mk.injEq] at hr
   exact absurd hr.2.2 he
theorem open_back {l x : List Int} {p q : Nat} {t : TagP} (hw : WfB l) (h : openP l p t = (x, q, 0)) : rightT t = true ∧ l.drop p = wrapL t x ++ l.drop q := by
 rw [openP_eq] at h
 generalize hr : readP l p = R at *
 obtain ⟨⟨t1, n⟩, q1, e⟩ := R
 dsimp only at h
 by_cases he : e = 0
 · subst he
   rw [if_pos rfl] at h
   by_cases h1 : t1 = t
   · rw [if_pos h1] at h
     subst h1
     by_cases h2 : (l.length : Int) - (q1 : Int) < n
     · rw [if_pos h2] at h; simp at h
     · rw [if_neg h2] at h
       simp only [Prod.mk.injEq] at h
       obtain ⟨rfl, rfl, _⟩ := h
       obtain ⟨a1, a2, a3, a4⟩ := read_back hw hr
       refine ⟨a1, ?_⟩
       have hlen : ((l.drop q1).take n.toNat).length = n.toNat := by simp; omega
       unfold wrapL
       rw [hlen, a4]
       simp only [List.append_assoc]
       rw [← List.drop_drop, List.take_append_drop]
   · rw [if_neg h1] at h; simp at h
 · rw [if_neg he] at h; simp at h; omega

abbrev bnilC : Cell := .lf (.v (.slice none 0 0))
abbrev shC (t : TagP) (b a : Cell) (e : Int) : Blk := .cells [i64c t.1, i64c t.2.1, .lf (.v (.bool t.2.2)), .lf (.v (.bool false)), b, a, i64c e]
abbrev frame0 : List Leaf := [.v (.int .i64 0), .v (.int .i64 0), .v (.bool false), .v (.bool false), .v (.slice none 0 0)]
abbrev arL : Leaf := .recs 5 [frame0]
abbrev arC : Cell := .lf arL
abbrev sh0 : Blk := shC tag0 bnilC bnilC 0
abbrev sh1 (t : TagP) (l : List Int) (e : Int) : Blk := shC t (.own 1 1 0 l.length) arC e
abbrev r8 (l : List Int) : Blk := .row (.ints .u8 l)
theorem bnew_ok : Ct Tryz.prog 51 [] [] (.c (.ptr 0 0)) [] [sh0] := by
 refine Ct_intro Tryz.func51 rfl rfl rfl rfl rfl (fun E hn hb => ?_)
 repeat refine nx ?_
 exact rt1 [66]
theorem boff_ok (t : TagP) (l : List Int) (e : Int) : Ct Tryz.prog 91 [.c (.ptr 0 0)] [sh1 t l e, r8 l] (lv (.bool (bif false then true else e != 0))) [sh1 t l e, r8 l] [] := by
 refine Ct_intro Tryz.func91 rfl rfl rfl rfl rfl (fun E hn hb => ?_)
 repeat refine nx ?_
 exact rt1 []
theorem boff0_ok : Ct Tryz.prog 91 [.c (.ptr 0 0)] [sh0] (lv (.bool false)) [sh0] [] := by
 refine Ct_intro Tryz.func91 rfl rfl rfl rfl rfl (fun E hn hb => ?_)
 repeat refine nx ?_
 exact rt1 []
theorem bopen_ok (t : TagP) : Ct Tryz.prog 90 [.c (.ptr 0 0), .agg [i64c t.1, i64c t.2.1, .lf (.v (.bool t.2.2)), .lf (.v (.bool false)), bnilC]] [sh0] (.tup []) [sh1 t [] 0] [r8 []] := by
 have h := boff0_ok
 refine Ct_intro Tryz.func90 rfl rfl rfl rfl rfl (fun E hn hb => ?_)
 repeat refine nx ?_
 refine N_sr (fun a w h => SR.cell_nil 0 4 900 rfl rfl rfl rfl rfl h) ?_
 exact rt1 [900]
theorem bOpen_ok (t : TagP) : Ct Tryz.prog 52 [.c (.ptr 0 0), tagA t] [sh0] (.tup []) [sh1 t [] 0] [r8 []] := by
 have h := bopen_ok t
 refine Ct_intro Tryz.func52 rfl rfl rfl rfl rfl (fun E hn hb => ?_)
 repeat refine nx ?_
 exact rt1 [71]
theorem badd_ok (t : TagP) (l x : List Int) (fr : List (List Leaf)) (e : Int) (hl : l.length + x.length ≤ 1000000) :
   CtM Tryz.prog 92 [.c (.ptr 0 0), B8 x] [shC t (.own 1 1 0 l.length) (.lf (.recs 5 fr)) e, r8 l] (.tup []) [shC t (.own 2 1 0 (l ++ x).length) (.lf (.recs 5 fr)) e, .gone] [r8 (l ++ x)] := by
 have e0 : l.take (0 + l.length) = l := by simp
 refine CtM_intro Tryz.func92 rfl rfl rfl rfl rfl (fun E hn hb => ?_)
 repeat refine nx ?_
 refine s_appendK 900 rfl rfl rfl rfl rfl (by rw [hn]; rfl) (elt_mk Tryz.underlying22 rfl rfl) rfl rfl rfl rfl ?_ (by simp) ⟨by omega, by decide⟩ ?_ ?_
 · trivial
 · rw [e0]
   repeat refine nx ?_
   rw [← List.length_append]
   exact N_endM [1] rfl (by trivial) ⟨rfl, ⟨.inr rfl, .inl rfl⟩, rfl, rfl⟩ hb rfl
 · rw [e0, List.drop_zero]
   repeat refine nx ?_
   rw [← List.length_append]
   exact N_endM [900] rfl (by trivial) ⟨rfl, ⟨.inr rfl, .inl rfl⟩, rfl, rfl⟩ hb rfl
theorem bput_ok (t : TagP) (l x : List Int) (hl : l.length + x.length ≤ 1000000) :
   CtM Tryz.prog 54 [.c (.ptr 0 0), rowsA [x]] [sh1 t l 0, r8 l] (.tup []) [shC t (.own 2 1 0 (l ++ x).length) arC 0, .gone] [r8 (l ++ x)] := by
 have h := boff_ok t l 0
 have ha := badd_ok t l x [frame0] 0 hl
 refine CtM_intro Tryz.func54 rfl rfl rfl rfl rfl (fun E hn hb => ?_)
 repeat refine nx ?_
 refine W_weaken (St.le_of (l := [(0, .c (.ptr 0 0)), (8, rowsA [x]), (9, lv (.int .i64 1)), (10, lv (.int .i64 0))]) (h := [(0, sh1 t l 0), (1, r8 l)]) (by refine ⟨?_, ?_⟩ <;> (repeat' (first | exact trivial | exact rfl | refine ⟨?_, ?_⟩)) <;> first | exact rfl | (simp; done) | skip)) ?_
 refine W_loop (ι := Bool) (fun i => match i with
   | false => St.of [(0, .c (.ptr 0 0)), (8, rowsA [x]), (9, lv (.int .i64 1)), (10, lv (.int .i64 0))] [(0, sh1 t l 0), (1, r8 l)]
   | true => St.of [(8, rowsA [x]), (9, lv (.int .i64 1)), (10, lv (.int .i64 1))] [(0, shC t (.own 82 1 0 (l ++ x).length) arC 0), (82, r8 (l ++ x))]) (fun i => match i with | false => 1 | true => 0) (fun i => ?_) false
 cases i with
 | false =>
   dsimp only
   repeat refine nx ?_
   refine s_callM [0, 1] ha rfl rfl (by rw [hn]; rfl) rfl rfl (by trivial) ⟨rfl, ⟨rfl, rfl⟩, (by simp [ordL]), rfl⟩ ?_
   repeat refine nx ?_
   refine N_round true (by decide) (St.le_of ⟨⟨rfl, rfl, rfl⟩, ⟨rfl, rfl⟩⟩)
 | true =>
   dsimp only
   repeat refine nx ?_
   exact N_retM [82] rfl (by trivial) ⟨rfl, ⟨.inr rfl, .inl rfl⟩, rfl, rfl⟩ hb rfl
abbrev shL (t : TagP) (l : List Int) (a : Leaf) (e : Int) : List Leaf := [.v (.int .i64 t.1), .v (.int .i64 t.2.1), .v (.bool t.2.2), .v (.bool false), .ints .u8 l, a, .v (.int .i64 e)]
abbrev shD (t : TagP) (l : List Int) (a : Leaf) (e : Int) : Blk := shC t (.lf (.ints .u8 l)) (.lf a) e
theorem boffD_ok (t : TagP) (l : List Int) (a : Leaf) (e : Int) : Ct Tryz.prog 91 [.c (.lf (.obj (shL t l a e)))] [] (lv (.bool (bif false then true else e != 0))) [] [] := by
 refine Ct_intro Tryz.func91 rfl rfl rfl rfl rfl (fun E hn hb => ?_)
 repeat refine nx ?_
 exact rt1 []
theorem bwhole_ok (t : TagP) (l : List Int) (hl : l.length ≤ 1000000) : Ct Tryz.prog 93 [.c (.ptr 0 0)] [shD t l arL 0] (.tup [B8 (wrapR t l).1, lv (.int .i64 (wrapR t l).2)]) [shD t l arL 0] [] := by
 have h := wrapR_ok t [l] (by simp) (by simp; omega)
 rw [show [l].flatten = l by simp] at h
 refine Ct_intro Tryz.func93 rfl rfl rfl rfl rfl (fun E hn hb => ?_)
 repeat refine nx ?_
 exact rt1 []
theorem bshut_ok (t : TagP) (l : List Int) (h : rightT t = true) (hl : l.length ≤ 900000) : Ct Tryz.prog 55 [.c (.ptr 0 0)] [shD t l arL 0] (.tup []) [shC tag0 (.own 1 1 0 (wrapL t l).length) (.lf (.recs 5 [])) 0] [r8 (wrapL t l)] := by
 have h0 := boffD_ok t l arL 0
 have h1 := bwhole_ok t l (by omega)
 have hw := wrap_len t l
 unfold wrapR at h1
 rw [if_pos h] at h1
 have h2 := badd_ok tag0 [] (wrapL t l) [] 0 (by simp; omega)
 rw [List.nil_append] at h2
 generalize wrapL t l = W at *
 dsimp only at h1
 refine Ct_intro Tryz.func55 rfl rfl rfl rfl rfl (fun E hn hb => ?_)
 repeat refine nx ?_
 refine WL_sr (fun a w h => SR.cell_nil 0 4 900 rfl rfl rfl rfl rfl h) ?_
 refine s_callM [0, 900] h2 rfl rfl (by rw [hn]; rfl) rfl rfl (by trivial) ⟨rfl, ⟨rfl, rfl⟩, (by simp [ordL]), rfl⟩ ?_
 repeat refine nx ?_
 exact rt1 [116]
theorem bbytes_ok (l : List Int) (hl : l.length ≤ 1000000) : Ct Tryz.prog 56 [.c (.ptr 0 0)] [shD tag0 l (.recs 5 []) 0] (.tup [B8 l, lv (.int .i64 0)]) [shD tag0 l (.recs 5 []) 0] [] := by
 have h := clone_ok l hl
 refine Ct_intro Tryz.func56 rfl rfl rfl rfl rfl (fun E hn hb => ?_)
 repeat refine nx ?_
 exact rt1 []
end Go.Proofs.YtaagjnlkinojcaaGreatDoor

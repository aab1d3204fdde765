/-
  Chapter 04: a number's digits to the base 128, and an oid's contents. The conditions: numbers that a machine can hold.
-/
import Derived.Test.YtaagjnlkinojcaaGreatDoorA4
import Derived.Test.YtaagjnlkinojcaaGreatDoorSxX
import Derived.Test.YtaagjnlkinojcaaGreatDoorA5
import Derived.Test.YtaagjnlkinojcaaGreatDoorSxI
import Derived.Test.YtaagjnlkinojcaaGreatDoorW16
import Derived.Test.YtaagjnlkinojcaaGreatDoorSxQ
import Derived.Test.YtaagjnlkinojcaaGreatDoorO3
import Derived.Test.YtaagjnlkinojcaaGreatDoorSxK
namespace Go.Proofs.YtaagjnlkinojcaaGreatDoor
set_option linter.unusedSimpArgs false
set_option linter.unusedVariables false
open Go.Sx
set_option maxRecDepth 10000
def hexV (c : Int) : Int := if 48 ≤ c ∧ c ≤ 57 then c - 48 else if 97 ≤ c ∧ c ≤ 102 then c - 97 + 10 else 16
theorem value_ok (c : Int) (hc : 0 ≤ c ∧ c < 256) : Ct Tryz.prog 86 [lv (.int .u8 c)] [] (lv (.int .u8 (hexV c))) [] [] := by
 unfold hexV
 by_cases h1 : 48 ≤ c ∧ c ≤ 57
 · rw [if_pos h1]
   refine Ct_intro Tryz.func86 rfl rfl rfl rfl rfl (fun E hn hb => ?_)
   repeat refine nx ?_
   exact rt1 []
 · rw [if_neg h1]
   by_cases h2 : 97 ≤ c ∧ c ≤ 102
   · rw [if_pos h2]
     refine Ct_intro Tryz.func86 rfl rfl rfl rfl rfl (fun E hn hb => ?_)
     repeat refine nx ?_
     exact rt1 []
   · rw [if_neg h2]
     refine Ct_intro Tryz.func86 rfl rfl rfl rfl rfl (fun E hn hb => ?_)
     repeat refine nx ?_
     exact rt1 []
def unhL (l : List Int) (k : Nat) : List Int := (List.range k).map fun j => 16 * hexV (l.getD (2 * j) 0) + hexV (l.getD (2 * j + 1) 0)
theorem unh_next (l : List Int) (k : Nat) : unhL l (k + 1) = unhL l k ++ [16 * hexV (l.getD (2 * k) 0) + hexV (l.getD (2 * k + 1) 0)] := by
 unfold unhL
 rw [List.range_succ, List.map_append]
 rfl
theorem orHx : ∀ x : Fin 16, ∀ y : Fin 16, IntKind.u8.wrap (BitVec.ofInt IntKind.u8.bits (((x.val : Nat) : Int) * 2 ^ min (Int.toNat 4) IntKind.u8.bits) ||| BitVec.ofInt IntKind.u8.bits ((y.val : Nat) : Int)).toNat = 16 * ((x.val : Nat) : Int) + ((y.val : Nat) : Int) := by decide +kernel
theorem orH {X Y : Int} (hx : X ≤ 15 ∧ 0 ≤ X) (hy : Y ≤ 15 ∧ 0 ≤ Y) : IntKind.u8.wrap (BitVec.ofInt IntKind.u8.bits (X * 2 ^ min (Int.toNat 4) IntKind.u8.bits) ||| BitVec.ofInt IntKind.u8.bits Y).toNat = 16 * X + Y := by
 obtain ⟨x, rfl⟩ : ∃ x : Nat, X = x := ⟨X.toNat, by omega⟩
 obtain ⟨y, rfl⟩ : ∃ y : Nat, Y = y := ⟨Y.toNat, by omega⟩
 exact orHx ⟨x, by omega⟩ ⟨y, by omega⟩
theorem unhex_ok (l : List Int) (n : Nat) (hn2 : l.length = 2 * n) (hl : l.length ≤ 1000) (hw : ∀ x ∈ l, 0 ≤ x ∧ x < 256) (hx : ∀ i, i < l.length → hexV (l.getD i 0) ≤ 15 ∧ 0 ≤ hexV (l.getD i 0)) :
   Ct Tryz.prog 47 [lv (.string (strOfNums l))] [] (.tup [B8 (unhL l n), lv (.int .i64 0)]) [] [] := by
 have hs : (strOfNums l).size = l.length := strOfNums_size l
 refine Ct_intro Tryz.func47 rfl rfl rfl rfl rfl (fun E hn hb => ?_)
 repeat refine nx ?_
 refine s_makeI (by_ := 1) rfl rfl rfl (by rw [hn]; rfl) (elt_mk Tryz.underlying22 rfl rfl) rfl rfl rfl (by exact vcs) 0 (by first | rfl | (simp; done) | omega) (by first | (simp; done) | omega | (simp at *; omega)) ?_
 repeat refine nx ?_
 refine W_weaken (St.le_of (l := [(0, lv (.string (strOfNums l))), (4, .c (.own 79 1 0 (unhL l 0).length)), (5, lv (.int .i64 ((2 * 0 : Nat) : Int)))]) (h := [(79, .row (.ints .u8 (unhL l 0)))]) (by refine ⟨?_, ?_⟩ <;> (repeat' (first | exact trivial | exact rfl | refine ⟨?_, ?_⟩)) <;> first | exact rfl | (simp; done) | skip)) ?_
 refine W_loop (ι := {k : Nat // k ≤ n}) (fun k => St.of [(0, lv (.string (strOfNums l))), (4, .c (.own 79 1 0 (unhL l k.1).length)), (5, lv (.int .i64 ((2 * k.1 : Nat) : Int)))] [(79, .row (.ints .u8 (unhL l k.1)))]) (fun k => n - k.1) (fun k => ?_) ⟨0, Nat.zero_le _⟩
 obtain ⟨k, hk⟩ := k
 dsimp only
 by_cases hk2 : k < n
 · have h1 := hx (2 * k) (by omega)
   have h2 := hx (2 * k + 1) (by omega)
   have ul : (unhL l k).length = k := by simp [unhL]
   repeat refine nx ?_
   have e1 : (bs (strOfNums l)).getD ((2 * k : Nat) : Int).toNat 0 = l.getD (2 * k) 0 := by rw [bsN hw, Int.toNat_natCast]
   have e2 : (bs (strOfNums l)).getD (((2 * k : Nat) : Int) + 1).toNat 0 = l.getD (2 * k + 1) 0 := by rw [bsN hw, show (((2 * k : Nat) : Int) + 1).toNat = 2 * k + 1 by omega]
   have b1 : 0 ≤ l.getD (2 * k) 0 ∧ l.getD (2 * k) 0 < 256 := wf_at hw _
   have b2 : 0 ≤ l.getD (2 * k + 1) 0 ∧ l.getD (2 * k + 1) 0 < 256 := wf_at hw _
   refine duc1 (hF := value_ok _ ?c1) ?k1
   case c1 => rw [e1]; exact b1
   repeat refine nx ?_
   refine duc1 (hF := value_ok _ ?c2) ?k2
   case c2 => rw [e2]; exact b2
   repeat refine nx ?_
   rw [e1, e2]
   have hnx := unh_next l k
   generalize hexV (l.getD (2 * k) 0) = X at *
   generalize hexV (l.getD (2 * k + 1) 0) = Y at *
   repeat refine nx ?_
   rw [orH h1 h2, ← hnx]
   have e3 : ((2 * k : Nat) : Int) + 2 = ((2 * (k + 1) : Nat) : Int) := by omega
   rw [e3]
   refine N_round ⟨k + 1, by omega⟩ (by dsimp only; omega) (St.le_of ⟨⟨rfl, rfl, rfl⟩, rfl⟩)
 · obtain rfl : k = n := by omega
   repeat refine nx ?_
   refine frzN 2 ?_
   exact rt1 []

theorem num_back {l : List Int} {p q : Nat} {N : Int} (hw : WfB l) (h : numP l 3 p 0 = (N, q, 0)) : 31 ≤ N ∧ N < 2097152 ∧ l.drop p = refD N ++ l.drop q := by
 have w1 := wf_at hw p
 have w2 := wf_at hw (p + 1)
 have w3 := wf_at hw (p + 1 + 1)
 have e1 := drop_at l p
 have e2 := drop_at l (p + 1)
 have e3 := drop_at l (p + 1 + 1)
 rw [numP] at h
 generalize l.getD p 0 = d1 at *
 by_cases h1 : p < l.length
 · rw [if_pos h1] at h
   by_cases c1 : 2 = 2 ∧ d1 = 128
   · rw [if_pos c1] at h; simp at h
   · rw [if_neg c1] at h
     by_cases c2 : d1 < 128
     · rw [if_pos c2] at h
       by_cases c3 : 128 * 0 + d1 % 128 < 31
       · rw [if_pos c3] at h; simp at h
       · rw [if_neg c3] at h
         simp only [Prod.mk.injEq] at h
         obtain ⟨rfl, rfl, _⟩ := h
         refine ⟨by omega, by omega, ?_⟩
         unfold refD
         rw [if_neg (by omega), if_neg (by omega), e1 h1, show (128 * 0 + d1 % 128) % 128 = d1 by omega]
         rfl
     · rw [if_neg c2] at h
       rw [numP] at h
       generalize l.getD (p + 1) 0 = d2 at *
       by_cases h2 : p + 1 < l.length
       · rw [if_pos h2, if_neg (by omega)] at h
         by_cases c4 : d2 < 128
         · rw [if_pos c4] at h
           by_cases c5 : 128 * (128 * 0 + d1 % 128) + d2 % 128 < 31
           · rw [if_pos c5] at h; simp at h
           · rw [if_neg c5] at h
             simp only [Prod.mk.injEq] at h
             obtain ⟨rfl, rfl, _⟩ := h
             refine ⟨by omega, by omega, ?_⟩
             have hN : 128 * (128 * 0 + d1 % 128) + d2 % 128 = 128 * (d1 - 128) + d2 := by omega
             rw [hN]
             unfold refD
             rw [if_neg (by omega), if_pos (by omega), e1 h1, e2 h2, show 128 + (128 * (d1 - 128) + d2) / 128 % 128 = d1 by omega, show (128 * (d1 - 128) + d2) % 128 = d2 by omega]
             rfl
         · rw [if_neg c4] at h
           rw [numP] at h
           generalize l.getD (p + 1 + 1) 0 = d3 at *
           by_cases h3 : p + 1 + 1 < l.length
           · rw [if_pos h3, if_neg (by omega)] at h
             by_cases c6 : d3 < 128
             · rw [if_pos c6] at h
               by_cases c7 : 128 * (128 * (128 * 0 + d1 % 128) + d2 % 128) + d3 % 128 < 31
               · rw [if_pos c7] at h; simp at h
               · rw [if_neg c7] at h
                 simp only [Prod.mk.injEq] at h
                 obtain ⟨rfl, rfl, _⟩ := h
                 refine ⟨by omega, by omega, ?_⟩
                 have hN : 128 * (128 * (128 * 0 + d1 % 128) + d2 % 128) + d3 % 128 = 16384 * (d1 - 128) + 128 * (d2 - 128) + d3 := by omega
                 rw [hN]
                 unfold refD
                 rw [if_pos (by omega), if_pos (by omega), e1 h1, e2 h2, e3 h3, show 128 + (16384 * (d1 - 128) + 128 * (d2 - 128) + d3) / 16384 = d1 by omega, show 128 + (16384 * (d1 - 128) + 128 * (d2 - 128) + d3) / 128 % 128 = d2 by omega, show (16384 * (d1 - 128) + 128 * (d2 - 128) + d3) % 128 = d3 by omega]
                 rfl
             · rw [if_neg c6] at h
               rw [numP] at h
               split at h <;> simp at h
           · rw [if_neg h3] at h; simp at h
       · rw [if_neg h2] at h; simp at h
 · rw [if_neg h1] at h; simp at h
theorem tag_back {l : List Int} {p q : Nat} {t : TagP} (hw : WfB l) (h : tagP l p = (t, q, 0)) : rightT t = true ∧ l.drop p = tgL t ++ l.drop q := by
 have hr : rawT l p = (t, q, 0) := by
   unfold tagP keepP at h
   split at h
   · exact h
   · rename_i h1
     simp only [Prod.mk.injEq] at h
     exact absurd h.2.2 h1
 have w1 := wf_at hw p
 have e1 := drop_at l p
 unfold rawT at hr
 generalize l.getD p 0 = c at *
 by_cases hp : p < l.length
 · rw [if_pos hp] at hr
   have hfi : ∀ n : Int, firstI (c / 64, n, decide (c / 32 % 2 = 1)) = 64 * (c / 64) + 32 * (c / 32 % 2) := by
     intro n
     unfold firstI
     dsimp only
     by_cases hb : c / 32 % 2 = 1
     · rw [decide_eq_true hb, hb]; rfl
     · rw [decide_eq_false hb]
       have : c / 32 % 2 = 0 := by omega
       rw [this]; rfl
   by_cases h31 : c % 32 = 31
   · rw [if_pos h31] at hr
     generalize hn : numP l 3 (p + 1) 0 = R at *
     obtain ⟨N, q2, e⟩ := R
     simp only [Prod.mk.injEq] at hr
     obtain ⟨rfl, rfl, rfl⟩ := hr
     obtain ⟨n1, n2, n3⟩ := num_back hw hn
     refine ⟨by simp [rightT]; omega, ?_⟩
     have hR := refD_eq N.toNat (by omega) (by omega)
     rw [show ((N.toNat : Nat) : Int) = N by omega] at hR
     unfold tgL
     dsimp only
     rw [if_neg (by omega), hfi, ← hR, e1 hp, n3]
     have : 64 * (c / 64) + 32 * (c / 32 % 2) + 31 = c := by omega
     rw [this]
     rfl
   · rw [if_neg h31] at hr
     simp only [Prod.mk.injEq] at hr
     obtain ⟨rfl, rfl, _⟩ := hr
     refine ⟨by simp [rightT]; omega, ?_⟩
     unfold tgL
     dsimp only
     rw [if_pos (by omega), hfi, e1 hp]
     have : 64 * (c / 64) + 32 * (c / 32 % 2) + c % 32 = c := by omega
     rw [this]
     rfl
 · rw [if_neg hp] at hr; simp at hr
theorem len_back {l : List Int} {p q : Nat} {n : Int} (hw : WfB l) (h : lenP l p = (n, q, 0)) : 0 ≤ n ∧ n ≤ 16777216 ∧ l.drop p = lenL n.toNat ++ l.drop q := by
 have hr : rawL l p = (n, q, 0) := by
   unfold lenP keepP at h
   split at h
   · exact h
   · rename_i h1
     simp only [Prod.mk.injEq] at h
     exact absurd h.2.2 h1
 have w0 := wf_at hw p
 have w1 := wf_at hw (p + 1)
 have w2 := wf_at hw (p + 1 + 1)
 have w3 := wf_at hw (p + 1 + 1 + 1)
 have w4 := wf_at hw (p + 1 + 1 + 1 + 1)
 have e0 := drop_at l p
 have e1 := drop_at l (p + 1)
 have e2 := drop_at l (p + 1 + 1)
 have e3 := drop_at l (p + 1 + 1 + 1)
 have e4 := drop_at l (p + 1 + 1 + 1 + 1)
 unfold rawL at hr
 by_cases hp : p < l.length
 · rw [if_pos hp] at hr
   generalize l.getD p 0 = c at *
   by_cases h1 : c < 128
   · rw [if_pos h1] at hr
     simp only [Prod.mk.injEq] at hr
     obtain ⟨rfl, rfl, _⟩ := hr
     refine ⟨by omega, by omega, ?_⟩
     unfold lenL
     rw [if_pos (by omega), e0 hp, show ((c.toNat : Nat) : Int) = c by omega]
     rfl
   · rw [if_neg h1] at hr
     by_cases h2 : c = 128 ∨ 132 < c
     · rw [if_pos h2] at hr; simp at hr
     · rw [if_neg h2] at hr
       unfold longP at hr
       by_cases h3 : l.length < p + 1 + (c % 128).toNat
       · rw [if_pos h3] at hr; simp at hr
       · rw [if_neg h3] at hr
         generalize l.getD (p + 1) 0 = d1 at *
         generalize l.getD (p + 1 + 1) 0 = d2 at *
         generalize l.getD (p + 1 + 1 + 1) 0 = d3 at *
         generalize l.getD (p + 1 + 1 + 1 + 1) 0 = d4 at *
         have hc : c = 129 ∨ c = 130 ∨ c = 131 ∨ c = 132 := by omega
         have fin : ∀ (k : Nat) (D : List Int), l.drop (p + 1) = D ++ l.drop (p + 1 + k) → D.length = k → (c % 128).toNat = k → (0 ≤ valA 0 D) → (128 ≤ valA 0 D → valA 0 D ≤ 16777216 → d1 ≠ 0 → refLenL (valA 0 D) = c :: D) → 0 ≤ n ∧ n ≤ 16777216 ∧ l.drop p = lenL n.toNat ++ l.drop q := by
           intro k D hD hk hck h0 href
           rw [hck, show (l.drop (p + 1)).take k = D by rw [hD, ← hk, List.take_left]] at hr
           by_cases h4 : d1 = 0 ∨ valA 0 D < 128
           · rw [if_pos h4] at hr; simp at hr
           · rw [if_neg h4] at hr
             by_cases h5 : 16777216 < valA 0 D
             · rw [if_pos h5] at hr; simp at hr
             · rw [if_neg h5] at hr
               simp only [Prod.mk.injEq] at hr
               obtain ⟨rfl, rfl, _⟩ := hr
               refine ⟨h0, by omega, ?_⟩
               rw [← refLen_eq _ (by omega), show (((valA 0 D).toNat : Nat) : Int) = valA 0 D by omega, href (by omega) (by omega) (by omega), e0 hp, hD]
               rfl
         rcases hc with rfl | rfl | rfl | rfl
         · have q1 : p + 1 < l.length := by omega
           refine fin 1 [d1] (by rw [e1 q1]; rfl) rfl (by decide) (by simp [valA]; omega) (fun a1 a2 a3 => ?_)
           simp only [valA] at a1 a2 ⊢
           unfold refLenL
           rw [if_neg (by omega), if_pos (by omega)]
           simp
         · have q1 : p + 1 < l.length := by omega
           have q2 : p + 1 + 1 < l.length := by omega
           refine fin 2 [d1, d2] (by rw [e1 q1, e2 q2]; rfl) rfl (by decide) (by simp [valA]; omega) (fun a1 a2 a3 => ?_)
           simp only [valA] at a1 a2 ⊢
           unfold refLenL
           rw [if_neg (by omega), if_neg (by omega), if_pos (by omega)]
           simp; omega
         · have q1 : p + 1 < l.length := by omega
           have q2 : p + 1 + 1 < l.length := by omega
           have q3 : p + 1 + 1 + 1 < l.length := by omega
           refine fin 3 [d1, d2, d3] (by rw [e1 q1, e2 q2, e3 q3]; rfl) rfl (by decide) (by simp [valA]; omega) (fun a1 a2 a3 => ?_)
           simp only [valA] at a1 a2 ⊢
           unfold refLenL
           rw [if_neg (by omega), if_neg (by omega), if_neg (by omega), if_pos (by omega)]
           simp; omega
         · have q1 : p + 1 < l.length := by omega
           have q2 : p + 1 + 1 < l.length := by omega
           have q3 : p + 1 + 1 + 1 < l.length := by omega
           have q4 : p + 1 + 1 + 1 + 1 < l.length := by omega
           refine fin 4 [d1, d2, d3, d4] (by rw [e1 q1, e2 q2, e3 q3, e4 q4]; rfl) rfl (by decide) (by simp [valA]; omega) (fun a1 a2 a3 => ?_)
           simp only [valA] at a1 a2 ⊢
           unfold refLenL
           rw [if_neg (by omega), if_neg (by omega), if_neg (by omega), if_neg (by omega)]
           simp; omega
 · rw [if_neg hp] at hr; simp at hr
theorem read_back {l : List Int} {p q : Nat} {t : TagP} {n : Int} (hw : WfB l) (h : readP l p = ((t, n), q, 0)) : rightT t = true ∧ 0 ≤ n ∧ n ≤ 16777216 ∧ l.drop p = tgL t ++ (lenL n.toNat ++ l.drop q) := by
 have hr : rawF l p = ((t, n), q, 0) := by
   unfold readP keepP at h
   split at h
   · exact h
   · rename_i h1
     simp only [Prod.mk.injEq] at h
     exact absurd h.2.2 h1
 unfold rawF at hr
 generalize ht : tagP l p = T at *
 obtain ⟨t1, q1, e1⟩ := T
 dsimp only at hr
 by_cases he : e1 = 0
 · subst he
   rw [if_pos rfl] at hr
   generalize hl : lenP l q1 = L at *
   obtain ⟨n1, q2, e2⟩ := L
   simp only [Prod.mk.injEq] at hr
   obtain ⟨⟨rfl, rfl⟩, rfl, rfl⟩ := hr
   obtain ⟨a1, a2⟩ := tag_back hw ht
   obtain ⟨b1, b2, b3⟩ := len_back hw hl
   exact ⟨a1, b1, b2, by rw [a2, b3]⟩
 · rw [if_neg he] at hr
   simp only [Prod.mk.injEq] at hr
   exact absurd hr.2.2 he
theorem open_back {l x : List Int} {p q : Nat} {t : TagP} (hw : WfB l) (h : openP l p t = (x, q, 0)) : rightT t = true ∧ l.drop p = wrapL t x ++ l.drop q := by
 rw [openP_eq] at h
 generalize hr : readP l p = R at *
 obtain ⟨⟨t1, n⟩, q1, e⟩ := R
 dsimp only at h
 by_cases he : e = 0
 · subst he
   rw [if_pos rfl] at h
   by_cases h1 : t1 = t
   · rw [if_pos h1] at h
     subst h1
     by_cases h2 : (l.length : Int) - (q1 : Int) < n
     · rw [if_pos h2] at h; simp at h
     · rw [if_neg h2] at h
       simp only [Prod.mk.injEq] at h
       obtain ⟨rfl, rfl, _⟩ := h
       obtain ⟨a1, a2, a3, a4⟩ := read_back hw hr
       refine ⟨a1, ?_⟩
       have hlen : ((l.drop q1).take n.toNat).length = n.toNat := by simp; omega
       unfold wrapL
       rw [hlen, a4]
       simp only [List.append_assoc]
       rw [← List.drop_drop, List.take_append_drop]
   · rw [if_neg h1] at h; simp at h
 · rw [if_neg he] at h; simp at h; omega
end Go.Proofs.YtaagjnlkinojcaaGreatDoor

namespace Go.Sx
open Go
set_option linter.unusedVariables false
set_option linter.unusedSimpArgs false
section
variable {P : Program} {E : Env} {ops : Array Oper} {Q : Exit → Act → World → Prop} {rest : List Oper} {o : Oper} {σ : St} {α : Type} {f : α → List Leaf}
theorem opy_loadF {t : TypeId} {y : Operand} {p : List Prop} {j sz i k : Nat} {h : α → Leaf} {rs : List α} {z0 : α} (hop : o.op = .load t y) (ht : tagg P t = false) (ht2 : (P.underlying t).isSome = true) (hy : ox σ y = (p, .c (.pel j sz i k))) (hb : σ.hp j = .row (.recs sz (rs.map f))) (hf : ∀ a, (f a)[k]? = some (h a))
   (hp : AllP p) (hlt : i < rs.length) : OpY P E o σ (.c (.lf (h (rs.getD i z0)))) := by
 refine opy_val fun β F a w hS => ?_
 have hv := oxR hS y
 rw [hy] at hv
 have hv := hv hp
 generalize he1 : a.eval y = v1 at hv
 dsimp only at hv
 cases hv with | c hv => cases hv with | pel _ _ _ _ g hgj =>
 have hB := hS.hp j
 rw [hb] at hB
 obtain ⟨hall, ⟨h0, _⟩ | ⟨g', cur, hg', hrow, hcc⟩⟩ := hB
 · simp at h0; subst h0; simp at hlt
 · rw [hgj] at hg'
   obtain rfl := Option.some.inj hg'
   obtain ⟨v, e1, e2⟩ := hcc i (f (rs.getD i z0)) k (h (rs.getD i z0)) (by simp [hlt]) (hf _)
   refine ⟨v, w, F, ?_, .refl w, fun _ h => h, fun _ h => .inl h, .c (.lf e2)⟩
   simp only [execOp, hop, he1]
   refine run_v ?_
   have hc : w.cell? ⟨g, i * sz + k, none⟩ = some v := by rw [hrow.cell]; exact e1
   simp [Instr.loadAt, Instr.sureAddr, loadVar, Sem.run_bind, run_isAgg' ht2, ht, hc]
end
end Go.Sx

namespace Go.Proofs.YtaagjnlkinojcaaGreatDoor
set_option linter.unusedSimpArgs false
set_option linter.unusedVariables false
open Go.Sx
set_option maxRecDepth 10000
set_option maxHeartbeats 4000000 in
theorem refCmp_ok (a b : List Int) (ha : a.length ≤ 1000000) (hb' : b.length ≤ 1000000) : Ct Tryz.prog 85 [I64 a, I64 b] [] (lv (.int .i64 (cmpL a b))) [] [] := by
 refine Ct_intro Tryz.func85 rfl rfl rfl rfl rfl (fun E hn hb => ?_)
 repeat (refine nst ?_)
 refine W_weaken (St.le_of (l := [(0, I64 a), (1, I64 b), (5, lv (.int .i64 0))]) (h := []) (by refine ⟨?_, ?_⟩ <;> (repeat' (first | exact trivial | exact rfl | refine ⟨?_, ?_⟩)) <;> first | exact rfl | (simp; done) | skip)) ?_
 refine W_loop (ι := {i : Nat // i ≤ 1000000 ∧ cmpL (a.drop i) (b.drop i) = cmpL a b}) (fun i => St.of [(0, I64 a), (1, I64 b), (5, lv (.int .i64 (i.1 : Int)))] []) (fun i => 1000001 - i.1) (fun i => ?_) ⟨0, by omega, rfl⟩
 obtain ⟨i, hi, he⟩ := i
 dsimp only
 repeat (refine nst ?_)
 refine W_cond rfl (by simp) (fun hc => ?_) (fun hc => ?_)
 · simp at hc
   repeat (refine nst ?_)
   refine W_drawW 21 (by kernel_rfl) (by kernel_rfl) (by kernel_rfl) (by rw [hn]; rfl) rfl rfl ?_
   repeat (first | refine dp1 ?_ | refine dg1 ?_ | refine DrawW_nil ?_)
   repeat (refine nst ?_)
   have key : ∀ x : List Int, i < x.length → x.drop i = x.getD i 0 :: x.drop (i + 1) := fun x h => by
     rw [List.drop_eq_getElem_cons h]; simp [h]
   refine W_cond rfl (by simp) (fun hd => ?_) (fun hd => ?_)
   · repeat (refine nst ?_)
     refine rt2 [] ?_ ?_
     · have : cmpL a b = -1 := by
         rw [← he]
         by_cases h1 : i < a.length
         · have h2 : i < b.length ∧ a.getD i 0 < b.getD i 0 := by
             have : ¬ a.length ≤ i := by omega
             simpa [this, Bool.cond_eq_ite] using hd
           rw [key a h1, key b h2.1]
           simp only [cmpL, h2.2, if_true]
         · rw [List.drop_eq_nil_of_le (by omega), key b (by omega)]; rfl
       rw [this]; rfl
     · trivial
   · repeat (refine nst ?_)
     have hia : i < a.length ∧ (i < b.length → ¬ a.getD i 0 < b.getD i 0) := by
       rcases Nat.lt_or_ge i a.length with h | h
       · have : ¬ a.length ≤ i := by omega
         refine ⟨h, fun hib => ?_⟩
         simpa [this, hib, Bool.cond_eq_ite] using hd
       · simp [h, Bool.cond_eq_ite] at hd
     clear hd
     refine W_drawW 15 (by kernel_rfl) (by kernel_rfl) (by kernel_rfl) (by rw [hn]; rfl) rfl rfl ?_
     repeat (first | refine dp1 ?_ | refine dg1 ?_ | refine DrawW_nil ?_)
     repeat (refine nst ?_)
     refine W_cond rfl (by simp) (fun hd => ?_) (fun hd => ?_)
     · repeat (refine nst ?_)
       refine rt2 [] ?_ ?_
       · have : cmpL a b = 1 := by
           rw [← he, key a hia.1]
           by_cases h1 : i < b.length
           · have h2 : b.getD i 0 < a.getD i 0 := by
               have : ¬ b.length ≤ i := by omega
               simpa [this, Bool.cond_eq_ite] using hd
             rw [key b h1]
             simp only [cmpL, hia.2 h1, h2, if_true, if_false]
           · rw [List.drop_eq_nil_of_le (by omega : b.length ≤ i)]; rfl
         rw [this]; rfl
       · trivial
     · repeat (refine nst ?_)
       have h1 : i < b.length ∧ ¬ b.getD i 0 < a.getD i 0 := by
         rcases Nat.lt_or_ge i b.length with h | h
         · have : ¬ b.length ≤ i := by omega
           refine ⟨h, ?_⟩
           simpa [this, Bool.cond_eq_ite] using hd
         · simp [h, Bool.cond_eq_ite] at hd
       (refine N_round ?i1 ?i2 ?i3; (case i1 => exact ⟨i + 1, by omega, by rw [← he, key a hia.1, key b h1.1]; simp only [cmpL, hia.2 h1.1, h1.2, if_false]⟩); (case i2 => (dsimp only; omega)); (case i3 => refine St.le_of ⟨?_, ?_⟩ <;> (repeat' (first | exact trivial | exact rfl | refine ⟨?_, ?_⟩)) <;> first | exact rfl | (simp; done) | skip))
 · repeat (refine nst ?_)
   refine rt2 [] ?_ ?_
   · have : cmpL a b = 0 := by
       rw [← he, List.drop_eq_nil_of_le (by simp at hc; omega), List.drop_eq_nil_of_le (by simp at hc; omega)]; rfl
     rw [this]; rfl
   · trivial
theorem isNaN_ok (x : Int) : Ct Tryz.prog 160 [lv (.int .i64 x)] [] (lv (.bool false)) [] [] := by
 refine Ct_intro Tryz.func160 rfl rfl rfl rfl rfl (fun E hn hb => ?_)
 repeat (refine nst ?_)
 refine rt2 [] ?_ ?_
 · simp [Av.ren]
   rfl
 · trivial
def cmpN (x y : Int) : Int := if x < y then -1 else if y < x then 1 else 0
theorem cmp_ok (x y : Int) : Ct Tryz.prog 153 [lv (.int .i64 x), lv (.int .i64 y)] [] (lv (.int .i64 (cmpN x y))) [] [] := by
 refine Ct_intro Tryz.func153 rfl rfl rfl rfl rfl (fun E hn hb => ?_)
 repeat (refine nst ?_)
 refine s_call0 (isNaN_ok x) rfl rfl rfl (by rw [hn]; rfl) rfl rfl (by exact vcs) rfl rfl rfl ?_
 repeat (refine nst ?_)
 refine s_call0 (isNaN_ok y) rfl rfl rfl (by rw [hn]; rfl) rfl rfl (by exact vcs) rfl rfl rfl ?_
 repeat (refine nst ?_)
 refine W_cond rfl (by simp) (fun hc => ?_) (fun hc => ?_)
 · simp at hc
 repeat (refine nst ?_)
 refine W_cond rfl (by simp) (fun hc => ?_) (fun hc => ?_)
 · simp at hc
 repeat (refine nst ?_)
 refine W_cond rfl (by simp) (fun h1 => ?_) (fun h1 => ?_)
 · have : cmpN x y = -1 := if_pos (by simpa using h1)
   rw [this]
   repeat (refine nst ?_)
   exact rt1 []
 repeat (refine nst ?_)
 refine W_cond rfl (by simp) (fun h2 => ?_) (fun h2 => ?_)
 · have : cmpN x y = 1 := by rw [cmpN, if_neg (by simpa using h1), if_pos (by simpa using h2)]
   rw [this]
   repeat (refine nst ?_)
   exact rt1 []
 · have : cmpN x y = 0 := by rw [cmpN, if_neg (by simpa using h1), if_neg (by simpa using h2)]
   rw [this]
   repeat (refine nst ?_)
   exact rt1 []
theorem sCmp_ok (a b : List Int) (ha : a.length ≤ 1000000) (hb' : b.length ≤ 1000000) : Ct Tryz.prog 146 [I64 a, I64 b] [] (lv (.int .i64 (cmpL a b))) [] [] := by
 have key : ∀ (x : List Int) (i : Nat), i < x.length → x.drop i = x.getD i 0 :: x.drop (i + 1) := fun x i h => by
   rw [List.drop_eq_getElem_cons h]; simp [h]
 refine Ct_intro Tryz.func146 rfl rfl rfl rfl rfl (fun E hn hb => ?_)
 repeat (refine nst ?_)
 refine W_weaken (St.le_of (l := [(0, I64 a), (1, I64 b), (9, I64 a), (10, lv (.int .i64 (a.length : Int))), (11, lv (.int .i64 ((0 : Nat) : Int)))]) (h := []) (by refine ⟨?_, ?_⟩ <;> (repeat' (first | exact trivial | exact rfl | refine ⟨?_, ?_⟩)) <;> first | exact rfl | (simp; done) | skip)) ?_
 refine W_loop (ι := {i : Nat // i ≤ a.length ∧ cmpL (a.drop i) (b.drop i) = cmpL a b}) (fun i => St.of [(0, I64 a), (1, I64 b), (9, I64 a), (10, lv (.int .i64 (a.length : Int))), (11, lv (.int .i64 (i.1 : Int)))] []) (fun i => a.length - i.1) (fun i => ?_) ⟨0, by omega, rfl⟩
 obtain ⟨i, hi, he⟩ := i
 dsimp only
 repeat (refine nst ?_)
 refine W_cond rfl (by simp) (fun hc => ?_) (fun hc => ?_)
 · have hi2 : i < a.length := by simpa using hc
   rw [key a i hi2] at he
   repeat (refine nst ?_)
   refine W_cond rfl (by simp) (fun h1 => ?_) (fun h1 => ?_)
   · have : cmpL a b = 1 := by
       rw [← he, List.drop_eq_nil_of_le (by simpa using h1 : b.length ≤ i)]; rfl
     rw [this]
     repeat (refine nst ?_)
     exact rt1 []
   · have h1' : i < b.length := by simpa using h1
     rw [key b i h1'] at he
     repeat (refine nst ?_)
     generalize hx : a.getD (Int.toNat (i : Int)) 0 = x
     generalize hy : b.getD (Int.toNat (i : Int)) 0 = y
     have hx' : a.getD i 0 = x := hx
     have hy' : b.getD i 0 = y := hy
     rw [hx', hy'] at he
     refine s_call0 (cmp_ok x y) rfl rfl rfl (by rw [hn]; rfl) rfl rfl (by exact vcs) rfl rfl rfl ?_
     repeat (refine nst ?_)
     refine W_cond rfl (by simp) (fun h2 => ?_) (fun h2 => ?_)
     · have : cmpL a b = cmpN x y := by
         rw [← he]
         simp [cmpN] at h2
         simp only [cmpL, cmpN]
         split <;> simp_all
       rw [this]
       repeat (refine nst ?_)
       exact rt1 []
     · repeat (refine nst ?_)
       have : ¬ x < y ∧ ¬ y < x := by
         simp only [cmpN] at h2
         constructor
         · intro h; rw [if_pos h] at h2; simp at h2
         · intro h; rw [if_neg (by omega), if_pos h] at h2; simp at h2
       (refine N_round ?i1 ?i2 ?i3; (case i1 => exact ⟨i + 1, by omega, by rw [← he]; simp only [cmpL, this.1, this.2, if_false]⟩); (case i2 => (dsimp only; omega)); (case i3 => refine St.le_of ⟨?_, ?_⟩ <;> (repeat' (first | exact trivial | exact rfl | refine ⟨?_, ?_⟩)) <;> first | exact rfl | (simp; done) | skip))
 · have : i = a.length := by simp at hc; omega
   subst this
   rw [List.drop_length] at he
   repeat (refine nst ?_)
   refine W_cond rfl (by simp) (fun h1 => ?_) (fun h1 => ?_)
   · have : cmpL a b = -1 := by
       rw [← he, key b a.length (by simpa using h1)]; rfl
     rw [this]
     repeat (refine nst ?_)
     exact rt1 []
   · have : cmpL a b = 0 := by
       rw [← he, List.drop_eq_nil_of_le (by simpa using h1)]; rfl
     rw [this]
     repeat (refine nst ?_)
     exact rt1 []
theorem oCmp_ok (a b : List Int) (ha : a.length ≤ 1000000) (hb' : b.length ≤ 1000000) : Ct Tryz.prog 135 [I64 a, I64 b] [] (lv (.int .i64 (cmpL a b))) [] [] := by
 refine Ct_intro Tryz.func135 rfl rfl rfl rfl rfl (fun E hn hb => ?_)
 repeat (refine nst ?_)
 refine s_call0 (sCmp_ok a b ha hb') rfl rfl rfl (by rw [hn]; rfl) rfl rfl (by exact vcs) rfl rfl rfl ?_
 repeat (refine nst ?_)
 exact rt1 []

def arcT : Nat → Nat → List Int
 | 0, _ => []
 | k + 1, n => if n = 0 then [] else (((n % 128 : Nat) : Int) + 128) :: arcT k (n / 128)
def arcL (n : Nat) : List Int := (((n % 128 : Nat) : Int) :: arcT 5 (n / 128)).reverse
end Go.Proofs.YtaagjnlkinojcaaGreatDoor

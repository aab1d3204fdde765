/-
  Chapter 12: a block more, the state's bytes. The conditions: words below 2^32, bytes that are bytes.
-/
import Derived.Test.YtaagjnlkinojcaaGreatN1
import Derived.Test.YtaagjnlkinojcaaGreatA11
import Derived.Test.YtaagjnlkinojcaaGreatW27
import Derived.Test.YtaagjnlkinojcaaGreatE5
import Derived.Test.YtaagjnlkinojcaaGreatD8
import Derived.Test.YtaagjnlkinojcaaGreatC13
import Derived.Test.YtaagjnlkinojcaaGreatD15
import Derived.Test.YtaagjnlkinojcaaGreatO12
import Derived.Test.YtaagjnlkinojcaaGreatW16
import Derived.Test.YtaagjnlkinojcaaGreatSxP
namespace Go.Proofs.YtaagjnlkinojcaaGreat
set_option linter.unusedSimpArgs false
set_option linter.unusedVariables false
open Go Go.Sx
set_option maxRecDepth 10000
theorem zbI (x : List Int) (p : Nat) (hp : p ≤ x.length) : p ≤ (z2n x p).2.1 ∧ (z2n x p).2.1 ≤ x.length := by
 have h := z49 x p (ofT 16) hp
 unfold z2n
 dsimp only
 split
 · exact h
 · exact ⟨Nat.le_refl _, hp⟩
theorem zfL (n : Nat) : 0 < (z10 n).length := by
 unfold z10
 split <;> simp
theorem z1L (t : z0q) (b : List Int) : 0 < (z0i t b).length := by
 unfold z0i
 simp only [List.length_append]
 have : 0 < (z10 b.length).length := zfL _
 omega
theorem zaG {x w : List Int} {p q : Nat} (hq : q ≤ x.length) (hp : p ≤ x.length) (h : x.drop p = w ++ x.drop q) : q = p + w.length ∧ x.take q = x.take p ++ w := by
 have hl := congrArg List.length h
 simp only [List.length_drop, List.length_append] at hl
 have e : q = p + w.length := by omega
 refine ⟨e, ?_⟩
 rw [e, List.take_add, h, List.take_left]
theorem z9q : ∀ {l : List AtT} {a : AtT}, z1z l = true → (l ≠ [] → z0v (atW (l.getLastD ([], []))) (atW a) < 0) → z1z (l ++ [a]) = true
 | [], _, _, _ => rfl
 | [b], a, _, h => by
   have := h (by simp)
   simp only [List.cons_append, List.nil_append, z1z, Bool.and_true, decide_eq_true_eq]
   exact this
 | b :: c :: l, a, h1, h => by
   simp only [z1z, Bool.and_eq_true] at h1
   have := z9q (l := c :: l) (a := a) h1.2 (fun _ => by simpa using h (by simp))
   simp only [List.cons_append, z1z, Bool.and_eq_true]
   exact ⟨h1.1, this⟩
theorem z9r {x : List Int} (hw : WfB x) : ∀ (f p : Nat) (acc r : List AtT), p ≤ x.length → x.length - p < f → acc.all z1h = true → z1z acc = true → acc.length ≤ 16 → x.take p = acc.flatMap atW → z4a x f p acc = (r, 0) → z0B r = true ∧ x = r.flatMap atW
 | 0, p, acc, r, _, h, _, _, _, _, _ => by omega
 | f + 1, p, acc, r, hp, hf, ha, hr, hl, ht, h => by
   rw [z4a] at h
   by_cases h1 : p < x.length
   · rw [if_pos h1] at h
     by_cases h2 : acc.length = 16
     · rw [if_pos h2] at h; simp at h
     · rw [if_neg h2] at h
       have hle := zbI x p hp
       generalize hA : z2n x p = A at *
       obtain ⟨a, q, e⟩ := A
       dsimp only at *
       by_cases he : e = 0
       · subst he
         rw [if_pos rfl] at h
         obtain ⟨b1, b2⟩ := z9F hw hA
         obtain ⟨c1, c2⟩ := zaG hle.2 hp b2
         by_cases h3 : acc ≠ [] ∧ z0v (atW (acc.getLastD ([], []))) (atW a) = 0
         · rw [if_pos h3] at h; simp at h
         · rw [if_neg h3] at h
           by_cases h4 : acc ≠ [] ∧ 0 < z0v (atW (acc.getLastD ([], []))) (atW a)
           · rw [if_pos h4] at h; simp at h
           · rw [if_neg h4] at h
             have hpos : 0 < (atW a).length := z1L _ _
             refine z9r hw f q (acc ++ [a]) r hle.2 (by omega) ?_ (z9q hr fun hn => ?_) (by simp; omega) ?_ h
             · rw [List.all_append, ha]; simp [b1]
             · have x1 : ¬ z0v (atW (acc.getLastD ([], []))) (atW a) = 0 := fun z => h3 ⟨hn, z⟩
               have x2 : ¬ 0 < z0v (atW (acc.getLastD ([], []))) (atW a) := fun z => h4 ⟨hn, z⟩
               omega
             · rw [c2, ht]; simp
       · rw [if_neg he] at h
         simp only [Prod.mk.injEq] at h
         exact absurd h.2 he
   · rw [if_neg h1] at h
     by_cases h2 : acc = []
     · rw [if_pos h2] at h; simp at h
     · rw [if_neg h2] at h
       simp only [Prod.mk.injEq] at h
       obtain ⟨rfl, _⟩ := h
       refine ⟨?_, ?_⟩
       · unfold z0B
         have : 1 ≤ acc.length := by cases acc with | nil => exact absurd rfl h2 | cons => simp
         simp [ha, hr, hl, this]
       · rw [← ht, List.take_of_length_le (by omega)]
theorem z9s {l : List Int} {p q : Nat} {r : List AtT} (hw : WfB l) (h : z2K l p = (r, q, 0)) : z0B r = true ∧ l.drop p = z0m r ++ l.drop q := by
 have hm := z2w l p (ofT 17)
 unfold z2K at h
 generalize hX : z0y l p (ofT 17) = X at *
 obtain ⟨x, q1, e⟩ := X
 dsimp only at *
 by_cases he : e = 0
 · subst he
   rw [if_pos rfl] at h
   generalize hS : z4a x (x.length + 1) 0 [] = S at *
   obtain ⟨r1, f⟩ := S
   dsimp only at h
   by_cases hf : f = 0
   · subst hf
     rw [if_pos rfl] at h
     simp only [Prod.mk.injEq] at h
     obtain ⟨rfl, rfl, _⟩ := h
     obtain ⟨b1, b2⟩ := z9r (fun z hz => hw z (hm.2 z hz)) (x.length + 1) 0 [] r1 (Nat.zero_le _) (by omega) rfl rfl (by simp) (by simp) hS
     refine ⟨b1, ?_⟩
     have := (z5r hw hX).2
     unfold z0m
     rw [← b2]
     exact this
   · rw [if_neg hf] at h
     simp only [Prod.mk.injEq] at h
     exact absurd h.2.2 hf
 · rw [if_neg he] at h
   simp only [Prod.mk.injEq] at h
   exact absurd h.2.2 he
theorem zhb (l : List Int) (p : Nat) (hp : p ≤ l.length) : p ≤ (z2K l p).2.1 ∧ (z2K l p).2.1 ≤ l.length := by
 have h := z49 l p (ofT 17) hp
 unfold z2K
 dsimp only
 split
 · split
   · exact h
   · exact ⟨Nat.le_refl _, hp⟩
 · exact ⟨Nat.le_refl _, hp⟩
theorem z9t {x : List Int} (hw : WfB x) : ∀ (f p : Nat) (acc r : List (List AtT)), p ≤ x.length → x.length - p < f → acc.all z0B = true → acc.length ≤ 64 → x.take p = acc.flatMap z0m → z4b x f p acc = (r, 0) → z0F r = true ∧ x = r.flatMap z0m
 | 0, p, acc, r, _, h, _, _, _, _ => by omega
 | f + 1, p, acc, r, hp, hf, ha, hl, ht, h => by
   rw [z4b] at h
   by_cases h1 : p < x.length
   · rw [if_pos h1] at h
     by_cases h2 : acc.length = 64
     · rw [if_pos h2] at h; simp at h
     · rw [if_neg h2] at h
       have hle := zhb x p hp
       generalize hA : z2K x p = A at *
       obtain ⟨a, q, e⟩ := A
       dsimp only at *
       by_cases he : e = 0
       · subst he
         rw [if_pos rfl] at h
         obtain ⟨b1, b2⟩ := z9s hw hA
         obtain ⟨c1, c2⟩ := zaG hle.2 hp b2
         have hpos : 0 < (z0m a).length := z1L _ _
         refine z9t hw f q (acc ++ [a]) r hle.2 (by omega) ?_ (by simp; omega) ?_ h
         · rw [List.all_append, ha]; simp [b1]
         · rw [c2, ht]; simp
       · rw [if_neg he] at h
         simp only [Prod.mk.injEq] at h
         exact absurd h.2 he
   · rw [if_neg h1] at h
     simp only [Prod.mk.injEq] at h
     obtain ⟨rfl, _⟩ := h
     refine ⟨by unfold z0F; simp [ha, hl], ?_⟩
     rw [← ht, List.take_of_length_le (by omega)]
theorem ze4 {l : List Int} {p q : Nat} {n : List (List AtT)} (hw : WfB l) (h : z3W l p = (n, q, 0)) : z0F n = true ∧ l.drop p = z1u n ++ l.drop q := by
 have hm := z2w l p (ofT 16)
 unfold z3W at h
 generalize hX : z0y l p (ofT 16) = X at *
 obtain ⟨x, q1, e⟩ := X
 dsimp only at *
 by_cases he : e = 0
 · subst he
   rw [if_pos rfl] at h
   generalize hS : z4b x (x.length + 1) 0 [] = S at *
   obtain ⟨r1, f⟩ := S
   dsimp only at h
   by_cases hf : f = 0
   · subst hf
     rw [if_pos rfl] at h
     simp only [Prod.mk.injEq] at h
     obtain ⟨rfl, rfl, _⟩ := h
     obtain ⟨b1, b2⟩ := z9t (fun z hz => hw z (hm.2 z hz)) (x.length + 1) 0 [] r1 (Nat.zero_le _) (by omega) rfl (by simp) (by simp) hS
     refine ⟨b1, ?_⟩
     have := (z5r hw hX).2
     unfold z1u
     rw [← b2]
     exact this
   · rw [if_neg hf] at h
     simp only [Prod.mk.injEq] at h
     exact absurd h.2.2 hf
 · rw [if_neg he] at h
   simp only [Prod.mk.injEq] at h
   exact absurd h.2.2 he
end Go.Proofs.YtaagjnlkinojcaaGreat

namespace Go.Proofs.YtaagjnlkinojcaaGreat
set_option linter.unusedSimpArgs false
set_option linter.unusedVariables false
open Go.Sx
set_option maxRecDepth 10000
abbrev atA (a : AtT) : Av := .agg [.lf (.ints .i64 a.1), .lf (.ints .u8 a.2)]
structure AtB (a : AtT) : Prop where
 o : a.1.length ≤ 16000000
 l : a.2.length ≤ 12000000
 w : WfB a.2
theorem z8q (x : List Int) (hl : x.length ≤ 12000000) (hw : WfB x) : Ct Tryz.prog 223 [B8 x] [] (lv (.bool (z5a x))) [] [] := by
 have hcn := z35 x (by omega)
 have hwh := z9w x 0 (Nat.zero_le _) hl hw
 unfold z5a
 generalize z0V x 0 = W at *
 obtain ⟨rs, e⟩ := W
 dsimp only at *
 by_cases he : e = 0
 · subst he
   rw [if_pos rfl] at hwh
   refine z00 Tryz.func223 rfl rfl rfl rfl rfl (fun E hn hb => ?_)
   repeat refine nx ?_
   refine rt2 [] (congrArg (fun x => lv (.bool x)) ?_) trivial
   have h1 : ((rs.length : Int) == 1) = decide (rs.length = 1) := by rw [Bool.eq_iff_iff]; simp; omega
   simp [h1]
 · rw [if_neg he] at hwh
   rw [decide_eq_false he]
   refine z00 Tryz.func223 rfl rfl rfl rfl rfl (fun E hn hb => ?_)
   repeat refine nx ?_
   refine rt2 [] (congrArg (fun x => lv (.bool x)) ?_) trivial
   simp [he]
theorem zhc {a : AtT} (hr : z0N a.1 = true) : (atW a).length ≤ a.2.length + 1000 := by
 unfold atW z16
 rw [if_pos hr]
 dsimp only
 have := z1p (ofT 16) (z0i (ofT 6) (z0p (z0P a.1)) ++ a.2)
 have := z1p (ofT 6) (z0p (z0P a.1))
 have := z33 hr
 rw [List.length_append] at *
 omega
theorem zaH (a : AtT) (h : AtB a) (hr : z1h a = true) : Ct Tryz.prog 207 [atA a] [] (B8 (atW a)) [] [] := by
 obtain ⟨o, v⟩ := a
 obtain ⟨h1, h2, h3⟩ := h
 dsimp only at h1 h2 h3
 have hw := z9C o h1
 have hs := z8q v h2 h3
 unfold z1h at hr
 simp only [Bool.and_eq_true] at hr
 have hn := zhc (a := (o, v)) hr.1
 have he : (z16 o).2 = 0 := by unfold z16; rw [if_pos hr.1]
 rw [he] at hw
 rw [hr.2] at hs
 have hl : (z16 o).1.length ≤ 1000 := by
   unfold z16
   rw [if_pos hr.1]
   have := z1p (ofT 6) (z0p (z0P o))
   have := z33 hr.1
   dsimp only
   omega
 have hq := zbo [(z16 o).1, v] (by simp) (by simp; omega)
 have e2 : atW (o, v) = z0i (ofT 16) [(z16 o).1, v].flatten := by unfold atW; simp
 rw [e2]
 generalize z0i (ofT 16) [(z16 o).1, v].flatten = Y at *
 generalize (z16 o).1 = X at *
 refine z00 Tryz.func207 rfl rfl rfl rfl rfl (fun E hn hb => ?_)
 repeat refine nx ?_
 exact rt1 []
theorem zfM (a : AtT) (h : AtB a) (hr : z1h a = false) : Ct Tryz.prog 207 [atA a] [] (lv (.slice none 0 0)) [] [] := by
 obtain ⟨o, v⟩ := a
 obtain ⟨h1, h2, h3⟩ := h
 dsimp only at h1 h2 h3
 have hw := z9C o h1
 have hs := z8q v h2 h3
 unfold z1h at hr
 dsimp only at hr
 by_cases ho : z0N o = true
 · rw [ho, Bool.true_and] at hr
   rw [hr] at hs
   have he : (z16 o).2 = 0 := by unfold z16; rw [if_pos ho]
   rw [he] at hw
   refine z00 Tryz.func207 rfl rfl rfl rfl rfl (fun E hn hb => ?_)
   repeat refine nx ?_
   exact rt1 []
 · have he : (z16 o).2 = 1 := by unfold z16; rw [if_neg ho]
   rw [he] at hw
   refine z00 Tryz.func207 rfl rfl rfl rfl rfl (fun E hn hb => ?_)
   repeat refine nx ?_
   exact rt1 []
theorem zfN (o : List Int) (hr : z0N o = true) : Ct Tryz.prog 213 [I64 o] [] (.c (.own 0 1 0 (z0i (ofT 6) (z0p (z0P o))).length)) [] [.row (.ints .u8 (z0i (ofT 6) (z0p (z0P o))))] := by
 have hc := zdX o hr
 have hf := z9i 6
 have hl := z33 hr
 have hw := z7v (ofT 6) (z0p (z0P o)) (by decide) (by omega)
 generalize z0p (z0P o) = X at *
 generalize ofT 6 = t at *
 generalize z0i t X = Y at *
 refine z00 Tryz.func213 rfl rfl rfl rfl rfl (fun E hn hb => ?_)
 repeat refine nx ?_
 exact rt1 [70]
theorem ze5 (a : AtT) (h : AtB a) (hr : z1h a = true) : Ct Tryz.prog 183 [atA a] [] (.tup [B8 (atW a), lv (.bool true)]) [] [] := by
 obtain ⟨o, v⟩ := a
 obtain ⟨h1, h2, h3⟩ := h
 dsimp only at h1 h2 h3
 have hs := z54 v 0 (Nat.zero_le _) h2 h3
 have hg := z7p o h1
 unfold z1h z5a at hr
 simp only [Bool.and_eq_true, decide_eq_true_eq] at hr
 obtain ⟨ho, hz, h1l⟩ := hr
 have hwo := zfN o ho
 have hf := z9i 16
 have hco := z33 ho
 have hwl := z1p (ofT 6) (z0p (z0P o))
 have e2 : atW (o, v) = z0i (ofT 16) (z0i (ofT 6) (z0p (z0P o)) ++ v) := by unfold atW z16; rw [if_pos ho]
 have hq := zcX (ofT 16) (z0i (ofT 6) (z0p (z0P o)) ++ v) (by decide) (by rw [List.length_append]; omega)
 rw [e2]
 rw [ho] at hg
 rw [hz] at hs
 have hl6 : (z0i (ofT 6) (z0p (z0P o))).length ≤ 1000 := by omega
 generalize z0i (ofT 16) (z0i (ofT 6) (z0p (z0P o)) ++ v) = Y at *
 generalize z0i (ofT 6) (z0p (z0P o)) = X at *
 generalize (z0V v 0).1 = rs at *
 have h1 : (z1E rs).length = 1 := by simp [h1l]
 generalize z1E rs = R at *
 refine z00 Tryz.func183 rfl rfl rfl rfl rfl (fun E hn hb => ?_)
 repeat refine nx ?_
 exact rt1 []
theorem ze6 (a : AtT) (h : AtB a) (hr : z1h a = false) : Ct Tryz.prog 183 [atA a] [] (.tup [B8 [], lv (.bool false)]) [] [] := by
 obtain ⟨o, v⟩ := a
 obtain ⟨h1, h2, h3⟩ := h
 dsimp only at h1 h2 h3
 have hs := z54 v 0 (Nat.zero_le _) h2 h3
 have hg := z7p o h1
 unfold z1h z5a at hr
 dsimp only at hr
 generalize z0V v 0 = W at *
 obtain ⟨rs, e⟩ := W
 dsimp only at *
 generalize z0N o = G at *
 by_cases he : e = 0
 · subst he
   by_cases hn1 : rs.length = 1
   · rw [hn1] at hr
     obtain rfl : G = false := by simpa using hr
     refine z00 Tryz.func183 rfl rfl rfl rfl rfl (fun E hn hb => ?_)
     repeat refine nx ?_
     exact rtU []
   · refine z00 Tryz.func183 rfl rfl rfl rfl rfl (fun E hn hb => ?_)
     repeat refine nx ?_
     exact rtU []
 · refine z00 Tryz.func183 rfl rfl rfl rfl rfl (fun E hn hb => ?_)
   repeat refine nx ?_
   exact rtU []

abbrev rdN : Av := .agg [.ptr 0 0]
theorem zhd {l : List Int} {p : Nat} {t : z0q} (h : ¬ (z0y l p t).2.2 = 0) : (z0y l p t).1 = [] ∧ (z0y l p t).2.1 = p := by
 unfold z0y z0S at h ⊢
 by_cases h2 : (z1y l p t).2.2 = 0
 · rw [if_pos h2] at h; exact absurd h2 h
 · rw [if_neg h2]; exact ⟨rfl, rfl⟩
theorem zhe (y : List Int) (q : Nat) (hq : q ≤ y.length) (hw : WfB y) : q ≤ (z3V y q).2.1 ∧ (z3V y q).2.1 ≤ y.length := by
 have hle := z1g y q hq
 have hpos := z1Z y q hw
 unfold z3V
 generalize z09 y q = R at *
 obtain ⟨⟨t, n⟩, r, e⟩ := R
 dsimp only at *
 split
 · split
   · exact hle
   · dsimp only
     omega
 · exact hle
theorem zfO (y : List Int) (q : Nat) (hq : q ≤ y.length) (hl : y.length ≤ 16000000) (hw : WfB y) : Ct Tryz.prog 234 [rdN] [z06 y q] (.tup [B8 (z3V y q).1, lv (.int .i64 (z3V y q).2.2)]) [z06 y (z3V y q).2.1] [] := by
 have hr := z5z y q hq hl hw
 have hle := z1g y q hq
 have hpos := z1Z y q hw
 have hat := z1P y q
 unfold z3V
 generalize z09 y q = F at *
 obtain ⟨⟨⟨t1, t2, t3⟩, n⟩, r, e⟩ := F
 dsimp only at *
 by_cases he : e = 0
 · subst he
   rw [if_pos rfl]
   have hat2 := z1P y r
   have hlf := z1t y r hle.2 (by omega)
   have hbk := z22 y r q hle.1 (by omega)
   by_cases hN : (y.length : Int) - r < n
   · rw [if_pos hN]
     refine z00 Tryz.func234 rfl rfl rfl rfl rfl (fun E hn hb => ?_)
     repeat refine nx ?_
     exact rtU []
   · rw [if_neg hN]
     obtain ⟨N, rfl⟩ : ∃ N : Nat, n = N := ⟨n.toNat, by omega⟩
     rw [Int.toNat_natCast]
     have htk := z5O y q (r - q + N) (by omega) hl
     rw [show ((r - q + N : Nat) : Int) = ((r : Int) - (q : Int)) + (N : Int) by omega, show q + (r - q + N) = r + N by omega] at htk
     refine z00 Tryz.func234 rfl rfl rfl rfl rfl (fun E hn hb => ?_)
     repeat refine nx ?_
     exact rt1 []
 · rw [if_neg he]
   refine z00 Tryz.func234 rfl rfl rfl rfl rfl (fun E hn hb => ?_)
   repeat refine nx ?_
   exact rtU []
abbrev atE (a : AtT) (e : Int) : Av := .tup [atA a, lv (.int .i64 e)]
theorem z8r : z3b (.agg [.lf (.v (.slice none 0 0)), .lf (.v (.slice none 0 0))]) (atA ([], [])) := by
 exact ⟨.inr ⟨rfl, .inl ⟨_, rfl⟩⟩, .inr ⟨rfl, .inl ⟨_, rfl⟩⟩, trivial⟩
set_option maxHeartbeats 4000000 in
theorem zhf (l : List Int) (p : Nat) (hp : p ≤ l.length) (hl : l.length ≤ 16000000) (hw : WfB l) : Ct Tryz.prog 219 [rdN] [z06 l p] (atE (z2n l p).1 (z2n l p).2.2) [z06 l (z2n l p).2.1] [] := by
 have hho := z1I 16
 have hop := z3w l p (ofT 16) hp hl hw
 have hoe := z5X l p (ofT 16) hp hl hw
 have hmem := z2w l p (ofT 16)
 have hst := @zhd l p (ofT 16)
 unfold z2n
 generalize z0y l p (ofT 16) = X at *
 obtain ⟨x, q, e⟩ := X
 dsimp only at *
 by_cases he : e = 0
 · subst he
   have hop := hop rfl
   rw [if_pos rfl]
   have hwx : WfB x := fun y hy => hw y (hmem.2 y hy)
   have h1 := zg5 x 0 (Nat.zero_le _) (by omega) hwx
   have h1l := zbY x 0 (Nat.zero_le _)
   unfold z6i
   generalize z3T x 0 = O at *
   obtain ⟨o, p1, f1⟩ := O
   dsimp only at *
   by_cases hf1 : f1 = 0
   · subst hf1
     rw [if_pos rfl]
     have h2 := zfO x p1 h1l.2 (by omega) hwx
     have h2l := zhe x p1 h1l.2 hwx
     generalize z3V x p1 = V at *
     obtain ⟨v, p2, f2⟩ := V
     dsimp only at *
     by_cases hf2 : f2 = 0
     · subst hf2
       rw [if_pos rfl]
       have h4 := z1t x p2 h2l.2 (by omega)
       by_cases hlt : p2 < x.length
       · rw [if_pos hlt]
         refine z00 Tryz.func219 rfl rfl rfl rfl rfl (fun E hn hb => ?_)
         repeat refine nxw ?_
         refine z6f [76] [(3, 0), (3, 76)] ?_
         repeat (first | refine nx ?_ | refine z6e [0] hn hop ?_)
         refine rtU [] (hu := ?_)
         exact ⟨z8r, .inl rfl, trivial⟩
       · rw [if_neg hlt]
         refine z00 Tryz.func219 rfl rfl rfl rfl rfl (fun E hn hb => ?_)
         repeat refine nxw ?_
         refine z6f [76] [(3, 0), (3, 76)] ?_
         repeat (first | refine nx ?_ | refine z6e [0] hn hop ?_)
         exact rt1 []
     · rw [if_neg hf2]
       refine z00 Tryz.func219 rfl rfl rfl rfl rfl (fun E hn hb => ?_)
       repeat refine nxw ?_
       refine z6f [76] [(3, 0), (3, 76)] ?_
       repeat (first | refine nx ?_ | refine z6e [0] hn hop ?_)
       refine rtU [] (hu := ?_)
       exact ⟨z8r, .inl rfl, trivial⟩
   · rw [if_neg hf1]
     refine z00 Tryz.func219 rfl rfl rfl rfl rfl (fun E hn hb => ?_)
     repeat refine nxw ?_
     refine z6f [76] [(3, 0), (3, 76)] ?_
     repeat (first | refine nx ?_ | refine z6e [0] hn hop ?_)
     refine rtU [] (hu := ?_)
     exact ⟨z8r, .inl rfl, trivial⟩
 · have hoe := hoe he
   obtain ⟨rfl, rfl⟩ := hst he
   rw [if_neg he]
   refine z00 Tryz.func219 rfl rfl rfl rfl rfl (fun E hn hb => ?_)
   repeat refine nxw ?_
   refine z6f [] [(3, 0)] ?_
   repeat (first | refine nx ?_ | refine z6e [0] hn hoe ?_)
   refine rtU [] (hu := ?_)
   exact ⟨z8r, .inl rfl, trivial⟩
end Go.Proofs.YtaagjnlkinojcaaGreat

namespace Go.Proofs.YtaagjnlkinojcaaGreat
set_option linter.unusedSimpArgs false
set_option linter.unusedVariables false
open Go Go.Sx
set_option maxRecDepth 10000
abbrev GnT : Type := Int × List Int × List (List AtT)
abbrev gn0 : GnT := (0, [], [])
def z1G (k : Int) : Bool := decide (k = 0) || decide (k = 3) || decide (k = 4) || decide (k = 5)
def z2M (b : List Int) : Bool := decide (0 < b.length) && b.all fun x => decide (x ≤ 127)
def z3A (b : List Int) : Bool := decide ((z0V b 0).2 = 0) && decide (0 < (z0V b 0).1.length)
def z3o (k : Int) (b : List Int) : Bool :=
 if k = 1 ∨ k = 2 ∨ k = 6 then z2M b else if k = 7 then decide (b.length = 4) || decide (b.length = 16) else if k = 8 then decide ((z23 b).2 = 0)
   else if k = 0 ∨ k = 3 ∨ k = 5 then z3A b else false
def z0Q (g : GnT) : Bool := if g.1 = 4 then decide (g.2.1.length = 0) && z0F g.2.2 else decide (g.2.2.length = 0) && z3o g.1 g.2.1
def z0Y (g : GnT) : List Int := z0i (2, g.1, z1G g.1) (if g.1 = 4 then z1u g.2.2 else g.2.1)
def z4x (b : List Int) : List (List AtT) × Int :=
 let r := z3W b 0
 if r.2.2 = 0 then (if r.2.1 < b.length then ([], 7) else (r.1, 0)) else ([], r.2.2)
def z6O (k : Int) (b : List Int) : GnT × Int :=
 if k = 4 then (let m := z4x b; if m.2 = 0 then (if z0Q (4, [], m.1) = true then ((4, [], m.1), 0) else (gn0, 6)) else (gn0, m.2))
 else if z0Q (k, b, []) = true then ((k, b, []), 0) else (gn0, 6)
def z2G (l : List Int) (p : Nat) : GnT × Nat × Int :=
 let r := z09 l p
 if r.2.2 = 0 then
   (if r.1.1.1 ≠ 2 ∨ 8 < r.1.1.2.1 ∨ r.1.1.2.2 ≠ z1G r.1.1.2.1 then (gn0, r.2.1, 4)
     else if (l.length : Int) - (r.2.1 : Int) < r.1.2 then (gn0, r.2.1, 3)
     else ((z6O r.1.1.2.1 ((l.drop r.2.1).take r.1.2.toNat)).1, r.2.1 + r.1.2.toNat, (z6O r.1.1.2.1 ((l.drop r.2.1).take r.1.2.toNat)).2))
 else (gn0, r.2.1, r.2.2)
def z4g (l : List Int) : Nat → Nat → List GnT → List GnT × Nat × Int
 | 0, p, _ => ([], p, 0)
 | f + 1, p, acc => if p < l.length then (if acc.length = 10000 then ([], p, 2) else let r := z2G l p; if r.2.2 = 0 then z4g l f r.2.1 (acc ++ [r.1]) else ([], r.2.1, r.2.2)) else (acc, p, 0)
def z3p (l : List Int) : List GnT × Nat × Int := if l.length = 0 then ([], 0, 6) else z4g l (l.length + 1) 0 []
theorem z9u {b : List Int} {n : List (List AtT)} (hw : WfB b) (h : z4x b = (n, 0)) : z0F n = true ∧ b = z1u n := by
 unfold z4x at h
 generalize hX : z3W b 0 = X at *
 obtain ⟨m, q, e⟩ := X
 dsimp only at h
 by_cases he : e = 0
 · subst he
   rw [if_pos rfl] at h
   obtain ⟨b1, b2⟩ := ze4 hw hX
   by_cases hq : q < b.length
   · rw [if_pos hq] at h; simp at h
   · rw [if_neg hq] at h
     simp only [Prod.mk.injEq] at h
     obtain ⟨rfl, _⟩ := h
     refine ⟨b1, ?_⟩
     rw [List.drop_eq_nil_of_le (by omega : b.length ≤ q), List.append_nil] at b2
     simpa using b2
 · rw [if_neg he] at h
   simp only [Prod.mk.injEq] at h
   exact absurd h.2 he
theorem ze7 {k : Int} {b : List Int} {g : GnT} (hw : WfB b) (h : z6O k b = (g, 0)) : z0Q g = true ∧ g.1 = k ∧ (if g.1 = 4 then z1u g.2.2 else g.2.1) = b := by
 unfold z6O at h
 by_cases hk : k = 4
 · rw [if_pos hk] at h
   generalize hM : z4x b = M at *
   obtain ⟨m, e⟩ := M
   dsimp only at h
   by_cases he : e = 0
   · subst he
     rw [if_pos rfl] at h
     by_cases ho : z0Q (4, [], m) = true
     · rw [if_pos ho] at h
       simp only [Prod.mk.injEq] at h
       obtain ⟨rfl, _⟩ := h
       refine ⟨ho, hk.symm, ?_⟩
       rw [if_pos rfl]
       exact (z9u hw hM).2.symm
     · rw [if_neg ho] at h; simp at h
   · rw [if_neg he] at h
     simp only [Prod.mk.injEq] at h
     exact absurd h.2 he
 · rw [if_neg hk] at h
   by_cases ho : z0Q (k, b, []) = true
   · rw [if_pos ho] at h
     simp only [Prod.mk.injEq] at h
     obtain ⟨rfl, _⟩ := h
     exact ⟨ho, rfl, if_neg hk⟩
   · rw [if_neg ho] at h; simp at h
theorem ze8 {l : List Int} {g : GnT} {p q : Nat} (hw : WfB l) (h : z2G l p = (g, q, 0)) : z0Q g = true ∧ l.drop p = z0Y g ++ l.drop q := by
 unfold z2G at h
 generalize hR : z09 l p = R at *
 obtain ⟨⟨⟨c, k, m⟩, n⟩, s, e⟩ := R
 dsimp only at h
 by_cases he : e = 0
 · subst he
   rw [if_pos rfl] at h
   by_cases h1 : c ≠ 2 ∨ 8 < k ∨ m ≠ z1G k
   · rw [if_pos h1] at h; simp at h
   · rw [if_neg h1] at h
     by_cases h2 : (l.length : Int) - (s : Int) < n
     · rw [if_pos h2] at h; simp at h
     · rw [if_neg h2] at h
       generalize hB : z6O k ((l.drop s).take n.toNat) = B at *
       obtain ⟨g1, f⟩ := B
       simp only [Prod.mk.injEq] at h
       obtain ⟨rfl, rfl, rfl⟩ := h
       obtain ⟨a1, a2, a3, a4⟩ := z5q hw hR
       obtain ⟨b1, b2, b3⟩ := ze7 (fun z hz => hw z (List.mem_of_mem_drop (List.mem_of_mem_take hz))) hB
       refine ⟨b1, ?_⟩
       simp only [not_or, Decidable.not_not] at h1
       obtain ⟨rfl, _, rfl⟩ := h1
       have hlen : ((l.drop s).take n.toNat).length = n.toNat := by simp; omega
       unfold z0Y
       rw [b3, b2]
       unfold z0i
       rw [hlen, a4]
       simp only [List.append_assoc]
       rw [← List.drop_drop, List.take_append_drop]
 · rw [if_neg he] at h
   simp only [Prod.mk.injEq] at h
   exact absurd h.2.2 he

def z26 (l : List GnT) : Bool := decide (0 < l.length) && decide (l.length ≤ 10000) && l.all z0Q
theorem z8Q (l : List Int) (p : Nat) (hp : p ≤ l.length) : p ≤ (z2G l p).2.1 ∧ (z2G l p).2.1 ≤ l.length := by
 have h := z1g l p hp
 unfold z2G
 generalize z09 l p = R at *
 obtain ⟨⟨⟨c, k, m⟩, n⟩, s, e⟩ := R
 dsimp only at *
 split
 · split
   · exact h
   · split
     · exact h
     · dsimp only
       omega
 · exact h
theorem zaI (l : List Int) : ∀ (f p : Nat) (acc : List GnT), p ≤ l.length → p ≤ (z4g l f p acc).2.1 ∧ (z4g l f p acc).2.1 ≤ l.length
 | 0, p, _, hp => ⟨Nat.le_refl _, hp⟩
 | f + 1, p, acc, hp => by
   have h := z8Q l p hp
   rw [z4g]
   split
   · split
     · exact ⟨Nat.le_refl _, hp⟩
     · dsimp only
       split
       · have := zaI l f (z2G l p).2.1 (acc ++ [(z2G l p).1]) h.2
         omega
       · exact h
   · exact ⟨Nat.le_refl _, hp⟩
end Go.Proofs.YtaagjnlkinojcaaGreat

namespace Go.Proofs.YtaagjnlkinojcaaGreat
set_option linter.unusedSimpArgs false
set_option linter.unusedVariables false
open Go.Sx
set_option maxRecDepth 10000
def W32 (x : Int) : Prop := 0 ≤ x ∧ x < 4294967296
structure V8 where
 a : Int
 b : Int
 c : Int
 d : Int
 e : Int
 f : Int
 g : Int
 h : Int
def V8.l (v : V8) : List Int := [v.a, v.b, v.c, v.d, v.e, v.f, v.g, v.h]
def V8.ok (v : V8) : Prop := W32 v.a ∧ W32 v.b ∧ W32 v.c ∧ W32 v.d ∧ W32 v.e ∧ W32 v.f ∧ W32 v.g ∧ W32 v.h
def KS : List Int := [
 0x428a2f98, 0x71374491, 0xb5c0fbcf, 0xe9b5dba5, 0x3956c25b, 0x59f111f1, 0x923f82a4, 0xab1c5ed5,
 0xd807aa98, 0x12835b01, 0x243185be, 0x550c7dc3, 0x72be5d74, 0x80deb1fe, 0x9bdc06a7, 0xc19bf174,
 0xe49b69c1, 0xefbe4786, 0x0fc19dc6, 0x240ca1cc, 0x2de92c6f, 0x4a7484aa, 0x5cb0a9dc, 0x76f988da,
 0x983e5152, 0xa831c66d, 0xb00327c8, 0xbf597fc7, 0xc6e00bf3, 0xd5a79147, 0x06ca6351, 0x14292967,
 0x27b70a85, 0x2e1b2138, 0x4d2c6dfc, 0x53380d13, 0x650a7354, 0x766a0abb, 0x81c2c92e, 0x92722c85,
 0xa2bfe8a1, 0xa81a664b, 0xc24b8b70, 0xc76c51a3, 0xd192e819, 0xd6990624, 0xf40e3585, 0x106aa070,
 0x19a4c116, 0x1e376c08, 0x2748774c, 0x34b0bcb5, 0x391c0cb3, 0x4ed8aa4a, 0x5b9cca4f, 0x682e6ff3,
 0x748f82ee, 0x78a5636f, 0x84c87814, 0x8cc70208, 0x90befffa, 0xa4506ceb, 0xbef9a3f7, 0xc67178f2]
def ze9 (x : Int) : List Int := [x / 16777216 % 256, x / 65536 % 256, x / 256 % 256, x % 256]
def V8.bytes (v : V8) : List Int := v.l.flatMap ze9

@[simp] theorem zuq : KS.length = 64 := rfl
@[simp] theorem zur : KS ≠ [] := by intro h; cases h
abbrev z6P (x : Int) : Cell := .lf (.v (.int .u32 x))

abbrev hC (v : V8) (bg : Bool) (X : Cell) (n : Int) : List Cell := [z6P v.a, z6P v.b, z6P v.c, z6P v.d, z6P v.e, z6P v.f, z6P v.g, z6P v.h, .lf (.v (.bool bg)), X, .lf (.v (.int .i64 n))]
end Go.Proofs.YtaagjnlkinojcaaGreat

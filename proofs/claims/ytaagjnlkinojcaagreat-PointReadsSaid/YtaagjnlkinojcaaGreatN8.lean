/-
  Chapters 14 and 15, plain laws: names and general names that are right are read as they were written. The conditions: bytes, rows that a machine can hold.
-/
import Derived.Test.YtaagjnlkinojcaaGreatE14
import Derived.Test.YtaagjnlkinojcaaGreatA6
import Derived.Test.YtaagjnlkinojcaaGreatW27
import Derived.Test.YtaagjnlkinojcaaGreatD8
namespace Go.Proofs.YtaagjnlkinojcaaGreat
set_option linter.unusedSimpArgs false
set_option linter.unusedVariables false
open Go Go.Sx
set_option maxRecDepth 10000
abbrev AtT : Type := List Int × List Int
abbrev atL (a : AtT) : List Leaf := [.ints .i64 a.1, .ints .u8 a.2]
def z89 (v : List Int) : Bool := decide ((z12 v 0).2 = 0) && decide ((z12 v 0).1.length = 1)
def atW (a : AtT) : List Int := z0q (ofT 16) ((z1O a.1).1 ++ a.2)
def z21 (a : AtT) : Bool := z0S a.1 && z89 a.2
def z3v : List AtT → Bool
 | a :: b :: l => decide (z0D (atW a) (atW b) < 0) && z3v (b :: l)
 | _ => true
def z11 (r : List AtT) : Bool := decide (1 ≤ r.length) && decide (r.length ≤ 16) && r.all z21 && z3v r
def z1M (n : List (List AtT)) : Bool := decide (n.length ≤ 64) && n.all z11
def z3w (r : List AtT) : List Int := z0q (ofT 17) (r.flatMap atW)
def z5r (n : List (List AtT)) : List Int := z0q (ofT 16) (n.flatMap z3w)
def z4c (y : List Int) (q : Nat) : List Int × Nat × Int :=
 let r := z09 y q
 if r.2.2 = 0 then (if (y.length : Int) - (r.2.1 : Int) < r.1.2 then ([], r.2.1, 3) else ((y.drop q).take (r.2.1 - q + r.1.2.toNat), r.2.1 + r.1.2.toNat, 0)) else ([], r.2.1, r.2.2)
def z78 (y : List Int) : AtT × Int :=
 let o := z3c y 0
 if o.2.2 = 0 then (let v := z4c y o.2.1; if v.2.2 = 0 then (if v.2.1 < y.length then (([], []), 7) else ((o.1, v.1), 0)) else (([], []), v.2.2)) else (([], []), o.2.2)
def z2f (x : List Int) (p : Nat) : AtT × Nat × Int :=
 let r := z0g x p (ofT 16)
 if r.2.2 = 0 then ((z78 r.1).1, r.2.1, (z78 r.1).2) else (([], []), p, r.2.2)
def z4d (x : List Int) : Nat → Nat → List AtT → List AtT × Int
 | 0, _, _ => ([], 0)
 | f + 1, p, acc =>
   if p < x.length then
     (if acc.length = 16 then ([], 2) else
       let r := z2f x p
       if r.2.2 = 0 then
         (if acc ≠ [] ∧ z0D (atW (acc.getLastD ([], []))) (atW r.1) = 0 then ([], 10)
           else if acc ≠ [] ∧ 0 < z0D (atW (acc.getLastD ([], []))) (atW r.1) then ([], 9) else z4d x f r.2.1 (acc ++ [r.1]))
       else ([], r.2.2))
   else if acc = [] then ([], 6) else (acc, 0)
def z1d (l : List Int) (p : Nat) : List AtT × Nat × Int :=
 let r := z0g l p (ofT 17)
 if r.2.2 = 0 then (let s := z4d r.1 (r.1.length + 1) 0 []; if s.2 = 0 then (s.1, r.2.1, 0) else ([], p, s.2)) else ([], p, r.2.2)
def z4e (x : List Int) : Nat → Nat → List (List AtT) → List (List AtT) × Int
 | 0, _, _ => ([], 0)
 | f + 1, p, acc =>
   if p < x.length then (if acc.length = 64 then ([], 2) else let r := z1d x p; if r.2.2 = 0 then z4e x f r.2.1 (acc ++ [r.1]) else ([], r.2.2)) else (acc, 0)
def z2y (l : List Int) (p : Nat) : List (List AtT) × Nat × Int :=
 let r := z0g l p (ofT 16)
 if r.2.2 = 0 then (let s := z4e r.1 (r.1.length + 1) 0 []; if s.2 = 0 then (s.1, r.2.1, 0) else ([], p, s.2)) else ([], p, r.2.2)
theorem zgq {y v : List Int} {q s : Nat} (hw : WfB y) (hq : q ≤ y.length) (h : z4c y q = (v, s, 0)) (hs : ¬ s < y.length) : v = y.drop q ∧ z89 v = true ∧ q < y.length := by
 have hle := z13 y q hq
 have hn : (z09 y q).2.2 = 0 → q < y.length := fun h0 => by
   have := z9N y q h0
   omega
 have hone := zdu y q
 unfold z4c at h
 generalize hR : z09 y q = R at *
 obtain ⟨⟨t, n⟩, r, e⟩ := R
 dsimp only at *
 by_cases he : e = 0
 · subst he
   have hq2 := hn rfl
   have hn0 := (z73 hw hR).2.1
   rw [if_pos rfl] at h
   by_cases h2 : (y.length : Int) - (r : Int) < n
   · rw [if_pos h2] at h; simp at h
   · rw [if_neg h2] at h
     simp only [Prod.mk.injEq] at h
     obtain ⟨rfl, rfl, _⟩ := h
     have e1 : (y.drop q).take (r - q + n.toNat) = y.drop q := List.take_of_length_le (by simp; omega)
     rw [e1]
     refine ⟨rfl, ?_, hq2⟩
     have := hone hq2 rfl (by omega)
     unfold z89
     rw [this]
     rfl
 · rw [if_neg he] at h
   simp only [Prod.mk.injEq] at h
   exact absurd h.2.2 he
theorem zeX {y : List Int} {a : AtT} (hw : WfB y) (h : z78 y = (a, 0)) : z21 a = true ∧ y = (z1O a.1).1 ++ a.2 := by
 have hb := @zdz y
 have hle := z98 y 0 (Nat.zero_le _)
 unfold z78 at h
 generalize hX : z3c y 0 = X at *
 obtain ⟨o, q, e⟩ := X
 dsimp only at *
 by_cases he : e = 0
 · subst he
   rw [if_pos rfl] at h
   obtain ⟨b1, b2⟩ := hb hw hX
   generalize hV : z4c y q = V at *
   obtain ⟨v, s, f⟩ := V
   dsimp only at *
   by_cases hf : f = 0
   · subst hf
     rw [if_pos rfl] at h
     by_cases hs : s < y.length
     · rw [if_pos hs] at h; simp at h
     · rw [if_neg hs] at h
       simp only [Prod.mk.injEq] at h
       obtain ⟨rfl, _⟩ := h
       obtain ⟨c1, c2, c3⟩ := zgq hw (by omega) hV hs
       refine ⟨by unfold z21; rw [b1, c2]; rfl, ?_⟩
       unfold z1O
       rw [if_pos b1, c1]
       simpa using b2
   · rw [if_neg hf] at h
     simp only [Prod.mk.injEq] at h
     exact absurd h.2 hf
 · rw [if_neg he] at h
   simp only [Prod.mk.injEq] at h
   exact absurd h.2 he
theorem za0 {x : List Int} {a : AtT} {p q : Nat} (hw : WfB x) (h : z2f x p = (a, q, 0)) : z21 a = true ∧ x.drop p = atW a ++ x.drop q := by
 have hm := z0w x p (ofT 16)
 unfold z2f at h
 generalize hX : z0g x p (ofT 16) = X at *
 obtain ⟨y, q1, e⟩ := X
 dsimp only at *
 by_cases he : e = 0
 · subst he
   rw [if_pos rfl] at h
   generalize hI : z78 y = I at *
   obtain ⟨a1, f⟩ := I
   simp only [Prod.mk.injEq] at h
   obtain ⟨rfl, rfl, rfl⟩ := h
   obtain ⟨b1, b2⟩ := zeX (fun z hz => hw z (hm.2 z hz)) hI
   refine ⟨b1, ?_⟩
   have := (z4B hw hX).2
   unfold atW
   rw [← b2]
   exact this
 · rw [if_neg he] at h
   simp only [Prod.mk.injEq] at h
   exact absurd h.2.2 he

theorem zcs (x : List Int) (p : Nat) (hp : p ≤ x.length) : p ≤ (z2f x p).2.1 ∧ (z2f x p).2.1 ≤ x.length := by
 have h := z2h x p (ofT 16) hp
 unfold z2f
 dsimp only
 split
 · exact h
 · exact ⟨Nat.le_refl _, hp⟩
theorem zgr (n : Nat) : 0 < (z1P n).length := by
 unfold z1P
 split <;> simp
theorem z2a (t : z0m) (b : List Int) : 0 < (z0q t b).length := by
 unfold z0q
 simp only [List.length_append]
 have : 0 < (z1P b.length).length := zgr _
 omega
theorem z6i {x w : List Int} {p q : Nat} (hq : q ≤ x.length) (hp : p ≤ x.length) (h : x.drop p = w ++ x.drop q) : q = p + w.length ∧ x.take q = x.take p ++ w := by
 have hl := congrArg List.length h
 simp only [List.length_drop, List.length_append] at hl
 have e : q = p + w.length := by omega
 refine ⟨e, ?_⟩
 rw [e, List.take_add, h, List.take_left]
theorem za1 : ∀ {l : List AtT} {a : AtT}, z3v l = true → (l ≠ [] → z0D (atW (l.getLastD ([], []))) (atW a) < 0) → z3v (l ++ [a]) = true
 | [], _, _, _ => rfl
 | [b], a, _, h => by
   have := h (by simp)
   simp only [List.cons_append, List.nil_append, z3v, Bool.and_true, decide_eq_true_eq]
   exact this
 | b :: c :: l, a, h1, h => by
   simp only [z3v, Bool.and_eq_true] at h1
   have := za1 (l := c :: l) (a := a) h1.2 (fun _ => by simpa using h (by simp))
   simp only [List.cons_append, z3v, Bool.and_eq_true]
   exact ⟨h1.1, this⟩
theorem za2 {x : List Int} (hw : WfB x) : ∀ (f p : Nat) (acc r : List AtT), p ≤ x.length → x.length - p < f → acc.all z21 = true → z3v acc = true → acc.length ≤ 16 → x.take p = acc.flatMap atW → z4d x f p acc = (r, 0) → z11 r = true ∧ x = r.flatMap atW
 | 0, p, acc, r, _, h, _, _, _, _, _ => by omega
 | f + 1, p, acc, r, hp, hf, ha, hr, hl, ht, h => by
   rw [z4d] at h
   by_cases h1 : p < x.length
   · rw [if_pos h1] at h
     by_cases h2 : acc.length = 16
     · rw [if_pos h2] at h; simp at h
     · rw [if_neg h2] at h
       have hle := zcs x p hp
       generalize hA : z2f x p = A at *
       obtain ⟨a, q, e⟩ := A
       dsimp only at *
       by_cases he : e = 0
       · subst he
         rw [if_pos rfl] at h
         obtain ⟨b1, b2⟩ := za0 hw hA
         obtain ⟨c1, c2⟩ := z6i hle.2 hp b2
         by_cases h3 : acc ≠ [] ∧ z0D (atW (acc.getLastD ([], []))) (atW a) = 0
         · rw [if_pos h3] at h; simp at h
         · rw [if_neg h3] at h
           by_cases h4 : acc ≠ [] ∧ 0 < z0D (atW (acc.getLastD ([], []))) (atW a)
           · rw [if_pos h4] at h; simp at h
           · rw [if_neg h4] at h
             have hpos : 0 < (atW a).length := z2a _ _
             refine za2 hw f q (acc ++ [a]) r hle.2 (by omega) ?_ (za1 hr fun hn => ?_) (by simp; omega) ?_ h
             · rw [List.all_append, ha]; simp [b1]
             · have x1 : ¬ z0D (atW (acc.getLastD ([], []))) (atW a) = 0 := fun z => h3 ⟨hn, z⟩
               have x2 : ¬ 0 < z0D (atW (acc.getLastD ([], []))) (atW a) := fun z => h4 ⟨hn, z⟩
               omega
             · rw [c2, ht]; simp
       · rw [if_neg he] at h
         simp only [Prod.mk.injEq] at h
         exact absurd h.2 he
   · rw [if_neg h1] at h
     by_cases h2 : acc = []
     · rw [if_pos h2] at h; simp at h
     · rw [if_neg h2] at h
       simp only [Prod.mk.injEq] at h
       obtain ⟨rfl, _⟩ := h
       refine ⟨?_, ?_⟩
       · unfold z11
         have : 1 ≤ acc.length := by cases acc with | nil => exact absurd rfl h2 | cons => simp
         simp [ha, hr, hl, this]
       · rw [← ht, List.take_of_length_le (by omega)]
theorem z5s {l : List Int} {p q : Nat} {r : List AtT} (hw : WfB l) (h : z1d l p = (r, q, 0)) : z11 r = true ∧ l.drop p = z3w r ++ l.drop q := by
 have hm := z0w l p (ofT 17)
 unfold z1d at h
 generalize hX : z0g l p (ofT 17) = X at *
 obtain ⟨x, q1, e⟩ := X
 dsimp only at *
 by_cases he : e = 0
 · subst he
   rw [if_pos rfl] at h
   generalize hS : z4d x (x.length + 1) 0 [] = S at *
   obtain ⟨r1, f⟩ := S
   dsimp only at h
   by_cases hf : f = 0
   · subst hf
     rw [if_pos rfl] at h
     simp only [Prod.mk.injEq] at h
     obtain ⟨rfl, rfl, _⟩ := h
     obtain ⟨b1, b2⟩ := za2 (fun z hz => hw z (hm.2 z hz)) (x.length + 1) 0 [] r1 (Nat.zero_le _) (by omega) rfl rfl (by simp) (by simp) hS
     refine ⟨b1, ?_⟩
     have := (z4B hw hX).2
     unfold z3w
     rw [← b2]
     exact this
   · rw [if_neg hf] at h
     simp only [Prod.mk.injEq] at h
     exact absurd h.2.2 hf
 · rw [if_neg he] at h
   simp only [Prod.mk.injEq] at h
   exact absurd h.2.2 he
theorem zct (l : List Int) (p : Nat) (hp : p ≤ l.length) : p ≤ (z1d l p).2.1 ∧ (z1d l p).2.1 ≤ l.length := by
 have h := z2h l p (ofT 17) hp
 unfold z1d
 dsimp only
 split
 · split
   · exact h
   · exact ⟨Nat.le_refl _, hp⟩
 · exact ⟨Nat.le_refl _, hp⟩
theorem za3 {x : List Int} (hw : WfB x) : ∀ (f p : Nat) (acc r : List (List AtT)), p ≤ x.length → x.length - p < f → acc.all z11 = true → acc.length ≤ 64 → x.take p = acc.flatMap z3w → z4e x f p acc = (r, 0) → z1M r = true ∧ x = r.flatMap z3w
 | 0, p, acc, r, _, h, _, _, _, _ => by omega
 | f + 1, p, acc, r, hp, hf, ha, hl, ht, h => by
   rw [z4e] at h
   by_cases h1 : p < x.length
   · rw [if_pos h1] at h
     by_cases h2 : acc.length = 64
     · rw [if_pos h2] at h; simp at h
     · rw [if_neg h2] at h
       have hle := zct x p hp
       generalize hA : z1d x p = A at *
       obtain ⟨a, q, e⟩ := A
       dsimp only at *
       by_cases he : e = 0
       · subst he
         rw [if_pos rfl] at h
         obtain ⟨b1, b2⟩ := z5s hw hA
         obtain ⟨c1, c2⟩ := z6i hle.2 hp b2
         have hpos : 0 < (z3w a).length := z2a _ _
         refine za3 hw f q (acc ++ [a]) r hle.2 (by omega) ?_ (by simp; omega) ?_ h
         · rw [List.all_append, ha]; simp [b1]
         · rw [c2, ht]; simp
       · rw [if_neg he] at h
         simp only [Prod.mk.injEq] at h
         exact absurd h.2 he
   · rw [if_neg h1] at h
     simp only [Prod.mk.injEq] at h
     obtain ⟨rfl, _⟩ := h
     refine ⟨by unfold z1M; simp [ha, hl], ?_⟩
     rw [← ht, List.take_of_length_le (by omega)]
theorem zeY {l : List Int} {p q : Nat} {n : List (List AtT)} (hw : WfB l) (h : z2y l p = (n, q, 0)) : z1M n = true ∧ l.drop p = z5r n ++ l.drop q := by
 have hm := z0w l p (ofT 16)
 unfold z2y at h
 generalize hX : z0g l p (ofT 16) = X at *
 obtain ⟨x, q1, e⟩ := X
 dsimp only at *
 by_cases he : e = 0
 · subst he
   rw [if_pos rfl] at h
   generalize hS : z4e x (x.length + 1) 0 [] = S at *
   obtain ⟨r1, f⟩ := S
   dsimp only at h
   by_cases hf : f = 0
   · subst hf
     rw [if_pos rfl] at h
     simp only [Prod.mk.injEq] at h
     obtain ⟨rfl, rfl, _⟩ := h
     obtain ⟨b1, b2⟩ := za3 (fun z hz => hw z (hm.2 z hz)) (x.length + 1) 0 [] r1 (Nat.zero_le _) (by omega) rfl (by simp) (by simp) hS
     refine ⟨b1, ?_⟩
     have := (z4B hw hX).2
     unfold z5r
     rw [← b2]
     exact this
   · rw [if_neg hf] at h
     simp only [Prod.mk.injEq] at h
     exact absurd h.2.2 hf
 · rw [if_neg he] at h
   simp only [Prod.mk.injEq] at h
   exact absurd h.2.2 he

abbrev GnT : Type := Int × List Int × List (List AtT)
abbrev gn0 : GnT := (0, [], [])
def z2U (k : Int) : Bool := decide (k = 0) || decide (k = 3) || decide (k = 4) || decide (k = 5)
def z30 (b : List Int) : Bool := decide (0 < b.length) && b.all fun x => decide (x ≤ 127)
def z3Q (b : List Int) : Bool := decide ((z12 b 0).2 = 0) && decide (0 < (z12 b 0).1.length)
def z4p (k : Int) (b : List Int) : Bool :=
 if k = 1 ∨ k = 2 ∨ k = 6 then z30 b else if k = 7 then decide (b.length = 4) || decide (b.length = 16) else if k = 8 then decide ((z2k b).2 = 0)
   else if k = 0 ∨ k = 3 ∨ k = 5 then z3Q b else false
def z1s (g : GnT) : Bool := if g.1 = 4 then decide (g.2.1.length = 0) && z1M g.2.2 else decide (g.2.2.length = 0) && z4p g.1 g.2.1
def z8a (g : GnT) : List Int := z0q (2, g.1, z2U g.1) (if g.1 = 4 then z5r g.2.2 else g.2.1)
def z3j (b : List Int) : List (List AtT) × Int :=
 let r := z2y b 0
 if r.2.2 = 0 then (if r.2.1 < b.length then ([], 7) else (r.1, 0)) else ([], r.2.2)
def z6j (k : Int) (b : List Int) : GnT × Int :=
 if k = 4 then (let m := z3j b; if m.2 = 0 then (if z1s (4, [], m.1) = true then ((4, [], m.1), 0) else (gn0, 6)) else (gn0, m.2))
 else if z1s (k, b, []) = true then ((k, b, []), 0) else (gn0, 6)
def z1o (l : List Int) (p : Nat) : GnT × Nat × Int :=
 let r := z09 l p
 if r.2.2 = 0 then
   (if r.1.1.1 ≠ 2 ∨ 8 < r.1.1.2.1 ∨ r.1.1.2.2 ≠ z2U r.1.1.2.1 then (gn0, r.2.1, 4)
     else if (l.length : Int) - (r.2.1 : Int) < r.1.2 then (gn0, r.2.1, 3)
     else ((z6j r.1.1.2.1 ((l.drop r.2.1).take r.1.2.toNat)).1, r.2.1 + r.1.2.toNat, (z6j r.1.1.2.1 ((l.drop r.2.1).take r.1.2.toNat)).2))
 else (gn0, r.2.1, r.2.2)
def z79 (l : List Int) (p : Nat) : GnT × Nat × Int := z0C gn0 p (z1o l p)
def z2V (l : List Int) : Nat → Nat → List GnT → List GnT × Nat × Int
 | 0, p, _ => ([], p, 0)
 | f + 1, p, acc => if p < l.length then (if acc.length = 10000 then ([], p, 2) else let r := z1o l p; if r.2.2 = 0 then z2V l f r.2.1 (acc ++ [r.1]) else ([], r.2.1, r.2.2)) else (acc, p, 0)
def z0y (l : List Int) : List GnT × Nat × Int := if l.length = 0 then ([], 0, 6) else z2V l (l.length + 1) 0 []
theorem za4 {b : List Int} {n : List (List AtT)} (hw : WfB b) (h : z3j b = (n, 0)) : z1M n = true ∧ b = z5r n := by
 unfold z3j at h
 generalize hX : z2y b 0 = X at *
 obtain ⟨m, q, e⟩ := X
 dsimp only at h
 by_cases he : e = 0
 · subst he
   rw [if_pos rfl] at h
   obtain ⟨b1, b2⟩ := zeY hw hX
   by_cases hq : q < b.length
   · rw [if_pos hq] at h; simp at h
   · rw [if_neg hq] at h
     simp only [Prod.mk.injEq] at h
     obtain ⟨rfl, _⟩ := h
     refine ⟨b1, ?_⟩
     rw [List.drop_eq_nil_of_le (by omega : b.length ≤ q), List.append_nil] at b2
     simpa using b2
 · rw [if_neg he] at h
   simp only [Prod.mk.injEq] at h
   exact absurd h.2 he
theorem zeZ {k : Int} {b : List Int} {g : GnT} (hw : WfB b) (h : z6j k b = (g, 0)) : z1s g = true ∧ g.1 = k ∧ (if g.1 = 4 then z5r g.2.2 else g.2.1) = b := by
 unfold z6j at h
 by_cases hk : k = 4
 · rw [if_pos hk] at h
   generalize hM : z3j b = M at *
   obtain ⟨m, e⟩ := M
   dsimp only at h
   by_cases he : e = 0
   · subst he
     rw [if_pos rfl] at h
     by_cases ho : z1s (4, [], m) = true
     · rw [if_pos ho] at h
       simp only [Prod.mk.injEq] at h
       obtain ⟨rfl, _⟩ := h
       refine ⟨ho, hk.symm, ?_⟩
       rw [if_pos rfl]
       exact (za4 hw hM).2.symm
     · rw [if_neg ho] at h; simp at h
   · rw [if_neg he] at h
     simp only [Prod.mk.injEq] at h
     exact absurd h.2 he
 · rw [if_neg hk] at h
   by_cases ho : z1s (k, b, []) = true
   · rw [if_pos ho] at h
     simp only [Prod.mk.injEq] at h
     obtain ⟨rfl, _⟩ := h
     exact ⟨ho, rfl, if_neg hk⟩
   · rw [if_neg ho] at h; simp at h
theorem za5 {l : List Int} {g : GnT} {p q : Nat} (hw : WfB l) (h : z1o l p = (g, q, 0)) : z1s g = true ∧ l.drop p = z8a g ++ l.drop q := by
 unfold z1o at h
 generalize hR : z09 l p = R at *
 obtain ⟨⟨⟨c, k, m⟩, n⟩, s, e⟩ := R
 dsimp only at h
 by_cases he : e = 0
 · subst he
   rw [if_pos rfl] at h
   by_cases h1 : c ≠ 2 ∨ 8 < k ∨ m ≠ z2U k
   · rw [if_pos h1] at h; simp at h
   · rw [if_neg h1] at h
     by_cases h2 : (l.length : Int) - (s : Int) < n
     · rw [if_pos h2] at h; simp at h
     · rw [if_neg h2] at h
       generalize hB : z6j k ((l.drop s).take n.toNat) = B at *
       obtain ⟨g1, f⟩ := B
       simp only [Prod.mk.injEq] at h
       obtain ⟨rfl, rfl, rfl⟩ := h
       obtain ⟨a1, a2, a3, a4⟩ := z73 hw hR
       obtain ⟨b1, b2, b3⟩ := zeZ (fun z hz => hw z (List.mem_of_mem_drop (List.mem_of_mem_take hz))) hB
       refine ⟨b1, ?_⟩
       simp only [not_or, Decidable.not_not] at h1
       obtain ⟨rfl, _, rfl⟩ := h1
       have hlen : ((l.drop s).take n.toNat).length = n.toNat := by simp; omega
       unfold z8a
       rw [b3, b2]
       unfold z0q
       rw [hlen, a4]
       simp only [List.append_assoc]
       rw [← List.drop_drop, List.take_append_drop]
 · rw [if_neg he] at h
   simp only [Prod.mk.injEq] at h
   exact absurd h.2.2 he

def z31 (l : List GnT) : Bool := decide (0 < l.length) && decide (l.length ≤ 10000) && l.all z1s
theorem z4S (l : List Int) (p : Nat) (hp : p ≤ l.length) : p ≤ (z1o l p).2.1 ∧ (z1o l p).2.1 ≤ l.length := by
 have h := z13 l p hp
 unfold z1o
 generalize z09 l p = R at *
 obtain ⟨⟨⟨c, k, m⟩, n⟩, s, e⟩ := R
 dsimp only at *
 split
 · split
   · exact h
   · split
     · exact h
     · dsimp only
       omega
 · exact h
theorem zbr (l : List Int) : ∀ (f p : Nat) (acc : List GnT), p ≤ l.length → p ≤ (z2V l f p acc).2.1 ∧ (z2V l f p acc).2.1 ≤ l.length
 | 0, p, _, hp => ⟨Nat.le_refl _, hp⟩
 | f + 1, p, acc, hp => by
   have h := z4S l p hp
   rw [z2V]
   split
   · split
     · exact ⟨Nat.le_refl _, hp⟩
     · dsimp only
       split
       · have := zbr l f (z1o l p).2.1 (acc ++ [(z1o l p).1]) h.2
         omega
       · exact h
   · exact ⟨Nat.le_refl _, hp⟩
theorem z8U {x : List Int} (hw : WfB x) : ∀ (f p : Nat) (acc r : List GnT) (s : Nat), p ≤ x.length → x.length - p < f → acc.all z1s = true → acc.length ≤ 10000 → x.take p = acc.flatMap z8a → z2V x f p acc = (r, s, 0) → r.all z1s = true ∧ r.length ≤ 10000 ∧ s = x.length ∧ x = r.flatMap z8a
 | 0, p, acc, r, s, _, h, _, _, _, _ => by omega
 | f + 1, p, acc, r, s, hp, hf, ha, hl, ht, h => by
   rw [z2V] at h
   by_cases h1 : p < x.length
   · rw [if_pos h1] at h
     by_cases h2 : acc.length = 10000
     · rw [if_pos h2] at h; simp at h
     · rw [if_neg h2] at h
       have hle := z4S x p hp
       generalize hA : z1o x p = A at *
       obtain ⟨a, q, e⟩ := A
       dsimp only at *
       by_cases he : e = 0
       · subst he
         rw [if_pos rfl] at h
         obtain ⟨b1, b2⟩ := za5 hw hA
         obtain ⟨c1, c2⟩ := z6i hle.2 hp b2
         have hpos : 0 < (z8a a).length := z2a _ _
         refine z8U hw f q (acc ++ [a]) r s hle.2 (by omega) ?_ (by simp; omega) ?_ h
         · rw [List.all_append, ha]; simp [b1]
         · rw [c2, ht]; simp
       · rw [if_neg he] at h
         simp only [Prod.mk.injEq] at h
         exact absurd h.2.2 he
   · rw [if_neg h1] at h
     simp only [Prod.mk.injEq] at h
     obtain ⟨rfl, rfl, _⟩ := h
     refine ⟨ha, hl, by omega, ?_⟩
     rw [← ht, List.take_of_length_le (by omega)]
theorem z8V {x : List Int} {r : List GnT} {s : Nat} (hw : WfB x) (h : z0y x = (r, s, 0)) : z31 r = true ∧ s = x.length ∧ x = r.flatMap z8a := by
 unfold z0y at h
 by_cases h0 : x.length = 0
 · rw [if_pos h0] at h; simp at h
 · rw [if_neg h0] at h
   obtain ⟨a1, a2, a3, a4⟩ := z8U hw (x.length + 1) 0 [] r s (Nat.zero_le _) (by omega) rfl (by simp) (by simp) h
   refine ⟨?_, a3, a4⟩
   have : 0 < r.length := by
     cases r with
     | nil => simp at a4; subst a4; simp at h0
     | cons => simp
   unfold z31
   simp [this, a1, a2]

abbrev WhT : Type := List GnT × List AtT
abbrev PtT : Type := Option WhT × List Int × List GnT
def z6k (w : WhT) : Bool := if 0 < w.2.length then decide (w.1.length = 0) && z11 w.2 else z31 w.1
def z3k (lo : Int) : List Int → Bool
 | [] => true
 | x :: l => decide (lo < x) && decide (x ≤ 8) && z3k x l
def z1K (l : List Int) : Bool := z3k (-1) l
def zak : Option WhT → Bool
 | none => true
 | some w => z6k w
def z6l (p : PtT) : Bool := zak p.1 && z1K p.2.1 && (decide (p.2.2.length = 0) || z31 p.2.2) && (p.1.isSome || decide (0 < p.2.2.length))
def z0o {α : Type} (z : α) (l : List Int) (p : Nat) (t : z0m) (rd : List Int → α × Nat × Int) : α × Nat × Int :=
 if isH l p t = true then
   let r := z0g l p t
   if r.2.2 = 0 then (let s := rd r.1; if s.2.2 = 0 then (if s.2.1 < r.1.length then (z, r.2.1, 7) else (s.1, r.2.1, 0)) else (z, r.2.1, s.2.2)) else (z, p, r.2.2)
 else (z, p, 0)
def z3K (x : List Int) : List AtT × Nat × Int := ((z1d (z0q (ofT 17) x) 0).1, x.length, (z1d (z0q (ofT 17) x) 0).2.2)
def z41 (x : List Int) : Option WhT × Nat × Int :=
 let r := z09 x 0
 if r.2.2 = 0 then
   if isH x 0 (2, 0, true) = true then (let s := z0o [] x 0 (2, 0, true) z0y; if s.2.2 = 0 then (some (s.1, []), s.2.1, 0) else (none, s.2.1, s.2.2))
   else if isH x 0 (2, 1, true) = true then (let s := z0o [] x 0 (2, 1, true) z3K; if s.2.2 = 0 then (some ([], s.1), s.2.1, 0) else (none, s.2.1, s.2.2))
   else (none, 0, 4)
 else (none, r.2.1, r.2.2)
def z2g (n : List Int) (i : Nat) : Bool := decide (n.getD (i / 8) 0 / 2 ^ (7 - i % 8) % 2 = 1)
def z4f (u : Int) (n : List Int) : List Int × Int :=
 let k := 8 * n.length - u.toNat
 if 32 < k ∨ (0 < k ∧ z2g n (k - 1) = false) then ([], 6) else (((List.range k).filter (z2g n)).map fun (i : Nat) => (i : Int), 0)
def z1U (x : List Int) : List Int × Nat × Int :=
 let s := z2G x
 if s.2.2 = true then (let f := z4f s.1 s.2.1; if f.2 = 0 ∧ f.1 ≠ [] ∧ z1K f.1 = true then (f.1, x.length, 0) else ([], x.length, 6)) else ([], x.length, 6)
def z6m (x : List Int) : PtT × Int :=
 let a := z0o none x 0 (2, 0, true) z41
 if a.2.2 = 0 then
   let b := z0o [] x a.2.1 (2, 1, false) z1U
   if b.2.2 = 0 then
     let c := z0o [] x b.2.1 (2, 2, true) z0y
     if c.2.2 = 0 then (if c.2.1 < x.length then ((none, [], []), 7) else if z6l (a.1, b.1, c.1) = true then ((a.1, b.1, c.1), 0) else ((none, [], []), 6)) else ((none, [], []), c.2.2)
   else ((none, [], []), b.2.2)
 else ((none, [], []), a.2.2)
def z1H (l : List Int) (p : Nat) : PtT × Nat × Int :=
 let r := z0g l p (ofT 16)
 if r.2.2 = 0 then (if (z6m r.1).2 = 0 then ((z6m r.1).1, r.2.1, 0) else ((none, [], []), p, (z6m r.1).2)) else ((none, [], []), p, r.2.2)
def z36 (x : List Int) : Nat → Nat → List PtT → List PtT × Int
 | 0, _, _ => ([], 0)
 | f + 1, p, acc => if p < x.length then (if acc.length = 10000 then ([], 2) else let r := z1H x p; if r.2.2 = 0 then z36 x f r.2.1 (acc ++ [r.1]) else ([], r.2.2)) else (acc, 0)
def z3F (l : List Int) (p : Nat) : List PtT × Nat × Int :=
 let r := z0g l p (ofT 16)
 if r.2.2 = 0 then
   (if r.1.length = 0 then ([], p, 6) else let s := z36 r.1 (r.1.length + 1) 0 []; if s.2 = 0 then (s.1, r.2.1, 0) else ([], p, s.2))
 else ([], p, r.2.2)
theorem z9o (l : List Int) (p : Nat) (hp : p ≤ l.length) : p ≤ (z1H l p).2.1 ∧ (z1H l p).2.1 ≤ l.length := by
 have h := z2h l p (ofT 16) hp
 unfold z1H
 dsimp only
 split
 · split
   · exact h
   · exact ⟨Nat.le_refl _, hp⟩
 · exact ⟨Nat.le_refl _, hp⟩

theorem zhS {o : List Int} (h : z0S o = true) : (z1O o).1.length ≤ 500 := by
 unfold z1O
 rw [if_pos h]
 have := z2T (ofT 6) (z0E (z17 o))
 have := z4b h
 dsimp only
 omega
theorem z4D {a : AtT} (h : z21 a = true) : (atW a).length ≤ a.2.length + 520 := by
 unfold z21 at h
 rw [Bool.and_eq_true] at h
 have := zhS h.1
 have := z2T (ofT 16) ((z1O a.1).1 ++ a.2)
 unfold atW
 rw [List.length_append] at *
 omega
theorem zdG {r : List AtT} (h : z11 r = true) : r ≠ [] ∧ r.length ≤ 16 ∧ (∀ a ∈ r, z21 a = true) ∧ z3v r = true := by
 unfold z11 at h
 simp only [Bool.and_eq_true, decide_eq_true_eq, List.all_eq_true] at h
 exact ⟨fun e => by rw [e] at h; simp at h, h.1.1.2, h.1.2, h.2⟩
theorem zdH {n : List (List AtT)} (h : z1M n = true) : n.length ≤ 64 ∧ ∀ r ∈ n, z11 r = true := by
 unfold z1M at h
 simp only [Bool.and_eq_true, decide_eq_true_eq, List.all_eq_true] at h
 exact h
end Go.Proofs.YtaagjnlkinojcaaGreat

/-
  Chapter 16: the next point at a cursor, read by the program. The conditions: rows of at most a hundred thousand bytes.
-/
import Derived.Test.YtaagjnlkinojcaaGreatQ22
namespace Go.Proofs.YtaagjnlkinojcaaGreat
set_option linter.unusedSimpArgs false
set_option linter.unusedVariables false
open Go.Sx
set_option maxRecDepth 10000
set_option maxHeartbeats 4000000 in
theorem zba (l : List GnT) (hb1 : ∀ g ∈ l, GnB g) (hl : l.length ≤ 1000000) : Ct Tryz.prog 98 [gnV l] [] (lv (.bool (z31 l))) [] [] := by
 have hml : (gnR l).length = l.length := List.length_map ..
 unfold z31
 by_cases h0 : l.length = 0
 · obtain rfl := List.eq_nil_of_length_eq_zero h0
   refine z00 Tryz.func98 rfl rfl rfl rfl rfl (fun E hn hb => ?_)
   repeat refine nx ?_
   exact rt1 []
 by_cases h9 : 10000 < l.length
 · rw [decide_eq_false (by omega : ¬ l.length ≤ 10000), Bool.and_false, Bool.false_and]
   refine z00 Tryz.func98 rfl rfl rfl rfl rfl (fun E hn hb => ?_)
   repeat refine nx ?_
   exact rt1 []
 rw [decide_eq_true (by omega : 0 < l.length), decide_eq_true (by omega : l.length ≤ 10000), Bool.true_and, Bool.true_and]
 refine z00 Tryz.func98 rfl rfl rfl rfl rfl (fun E hn hb => ?_)
 repeat refine nx ?_
 refine z05 rfl (by simp) (fun hc => ?_) (fun hc => ?_)
 · exfalso
   rw [hml, show ((l.length : Int) == 0) = false by rw [beq_eq_false_iff_ne]; omega, show decide ((10000 : Int) < (l.length : Int)) = false by rw [decide_eq_false_iff_not]; omega] at hc
   cases hc
 clear hc
 repeat refine nx ?_
 rw [hml]
 refine z0a (St.le_of (l := [(13, gnV l), (14, lv (.int .i64 (l.length : Int))), (15, lv (.int .i64 ((0 : Nat) : Int)))]) (h := []) (by refine ⟨?_, ?_⟩ <;> (repeat' (first | exact trivial | exact rfl | refine ⟨?_, ?_⟩)) <;> first | exact rfl | (simp; done) | skip)) ?_
 refine z0j (ι := {i : Nat // i ≤ l.length ∧ ∀ j, j < i → z1s (l.getD j gn0) = true}) (fun i => St.of [(13, gnV l), (14, lv (.int .i64 (l.length : Int))), (15, lv (.int .i64 (i.1 : Int)))] []) (fun i => l.length - i.1) (fun i => ?_) ⟨0, Nat.zero_le _, fun j hj => by omega⟩
 obtain ⟨i, hi, hu⟩ := i
 dsimp only
 by_cases hi2 : i < l.length
 · have hq : l.getD (i : Int).toNat default = l.getD i gn0 := rfl
   have hw := z6B _ (hb1 _ (z2Z (d := gn0) hi2))
   by_cases ha : z1s (l.getD i gn0) = true
   · rw [ha] at hw
     generalize hA : l.getD i gn0 = g at *
     obtain ⟨k, b, n⟩ := g
     repeat (first | refine nx ?_ | rw [hq])
     refine z06 ⟨i + 1, hi2, fun j hj => by
       by_cases e : j = i
       · subst e; rw [hA]; exact ha
       · exact hu j (by omega)⟩ (by dsimp only; omega) (St.le_of ⟨⟨rfl, rfl, rfl⟩, trivial⟩)
   · rw [z6Z hi2 ha]
     rw [Bool.eq_false_iff.2 ha] at hw
     generalize hA : l.getD i gn0 = g at *
     obtain ⟨k, b, n⟩ := g
     repeat (first | refine nx ?_ | rw [hq])
     exact rt1 []
 · obtain rfl : i = l.length := by omega
   rw [z8H hu]
   repeat refine nx ?_
   exact rt1 []
theorem zdv (r : List AtT) : z1M [r] = z11 r := by
 unfold z1M
 simp
structure WhB (w : WhT) : Prop where
 l : w.1.length ≤ 1000000
 g : ∀ g ∈ w.1, GnB g
 s : w.2.length ≤ 1000000
 a : ∀ a ∈ w.2, AtB a
theorem zeC (w : WhT) (h : WhB w) : Ct Tryz.prog 70 [lfV (whC w)] [] (lv (.bool (z6k w))) [] [] := by
 obtain ⟨g, r⟩ := w
 obtain ⟨h1, h2, h3, h4⟩ := h
 dsimp only at h1 h2 h3 h4
 have hg := zba g h2 h1
 have hn1 := z8I [r] ⟨by simp, fun x hx => by rw [List.mem_singleton.1 hx]; exact ⟨h3, h4⟩⟩
 rw [zdv] at hn1
 have hml : (r.map atL).length = r.length := List.length_map ..
 have hgl : (gnR g).length = g.length := List.length_map ..
 unfold z6k
 dsimp only
 generalize z31 g = G at *
 generalize z11 r = S at *
 by_cases h0 : 0 < r.length
 · rw [if_pos h0]
   by_cases hg0 : g.length = 0
   · obtain rfl := List.eq_nil_of_length_eq_zero hg0
     refine z00 Tryz.func70 rfl rfl rfl rfl rfl (fun E hn hb => ?_)
     repeat (first | refine lgE hn ?_ | refine nx ?_)
     refine rt2 [] (congrArg (fun x => lv (.bool x)) ?_) trivial
     simp
   · refine z00 Tryz.func70 rfl rfl rfl rfl rfl (fun E hn hb => ?_)
     repeat (first | refine lgE hn ?_ | refine nx ?_)
     refine rt2 [] (congrArg (fun x => lv (.bool x)) ?_) trivial
     rw [hgl, show ((g.length : Int) == 0) = false by rw [beq_eq_false_iff_ne]; omega, decide_eq_false hg0]
     rfl
 · rw [if_neg h0]
   obtain rfl : r = [] := List.eq_nil_of_length_eq_zero (by omega)
   refine z00 Tryz.func70 rfl rfl rfl rfl rfl (fun E hn hb => ?_)
   repeat refine nx ?_
   exact rt1 []
abbrev z9k : Option WhT → Prop
 | none => True
 | some w => WhB w
theorem zga (o : Option WhT) (l : List Int) (h : z9k o) (hl : l.length ≤ 1000000) : Ct Tryz.prog 86 [wpV o, I64 l] [] (lv (.bool (zak o && z1K l))) [] [] := by
 have hr := zeh l hl
 cases o with
 | none =>
   show Ct _ _ [.c (.lf (.v (.pointer none))), I64 l] _ _ _ _
   by_cases h0 : l.length = 0
   · obtain rfl := List.eq_nil_of_length_eq_zero h0
     refine z00 Tryz.func86 rfl rfl rfl rfl rfl (fun E hn hb => ?_)
     repeat (first | refine nx ?_ | refine wgF (lv (.bool false)) hn ?_)
     exact rt1 []
   · rw [decide_eq_true (by omega : 0 < l.length), Bool.true_and] at hr
     have hz : ((l.length : Int) == 0) = false := by rw [beq_eq_false_iff_ne]; omega
     generalize z1K l = R at *
     refine z00 Tryz.func86 rfl rfl rfl rfl rfl (fun E hn hb => ?_)
     repeat (first | refine nx ?_ | refine wgF (lv (.bool false)) hn ?_)
     refine rt2 [] (congrArg (fun x => lv (.bool x)) ?_) trivial
     rw [hz]
     rfl
 | some w =>
   have hw := zeC w h
   show Ct _ _ [lfV (whC w), I64 l] _ (lv (.bool (z6k w && z1K l))) _ _
   generalize z6k w = W at *
   obtain ⟨w1, w2⟩ := w
   by_cases h0 : l.length = 0
   · obtain rfl := List.eq_nil_of_length_eq_zero h0
     refine z00 Tryz.func86 rfl rfl rfl rfl rfl (fun E hn hb => ?_)
     repeat refine nx ?_
     refine rt2 [] (congrArg (fun x => lv (.bool x)) ?_) trivial
     cases W <;> simp [z1K, z3k]
   · rw [decide_eq_true (by omega : 0 < l.length), Bool.true_and] at hr
     have hz : ((l.length : Int) == 0) = false := by rw [beq_eq_false_iff_ne]; omega
     generalize z1K l = R at *
     cases W with
     | true =>
       refine z00 Tryz.func86 rfl rfl rfl rfl rfl (fun E hn hb => ?_)
       repeat refine nx ?_
       refine rt2 [] (congrArg (fun x => lv (.bool x)) ?_) trivial
       rw [hz]
       rfl
     | false =>
       refine z00 Tryz.func86 rfl rfl rfl rfl rfl (fun E hn hb => ?_)
       repeat (first | refine nx ?_ | refine wgF (lv (.bool false)) hn ?_)
       exact rt1 []
abbrev ptA (p : PtT) : Av := .agg [.lf (wpL p.1), .lf (.ints .i64 p.2.1), .lf (.recs 3 (gnR p.2.2))]
structure PtB (p : PtT) : Prop where
 w : z9k p.1
 r : p.2.1.length ≤ 1000000
 l : p.2.2.length ≤ 1000000
 g : ∀ g ∈ p.2.2, GnB g
theorem zeD (p : PtT) (h : PtB p) : Ct Tryz.prog 41 [ptA p] [] (lv (.bool (z6l p))) [] [] := by
 obtain ⟨o, r, g⟩ := p
 obtain ⟨h1, h2, h3, h4⟩ := h
 dsimp only at h1 h2 h3 h4
 have hp := zga o r h1 h2
 have hg := zba g h4 h3
 have hgl : (gnR g).length = g.length := List.length_map ..
 unfold z6l
 dsimp only
 generalize (zak o && z1K r) = A at *
 generalize z31 g = G at *
 rcases o with _ | ⟨w1, w2⟩
 · change Ct _ _ [.c (.lf (.v (.pointer none))), I64 r] _ _ _ _ at hp
   show Ct _ _ [.agg [.lf (.v (.pointer none)), .lf (.ints .i64 r), .lf (.recs 3 (gnR g))]] _ _ _ _
   cases A with
   | false =>
     refine z00 Tryz.func41 rfl rfl rfl rfl rfl (fun E hn hb => ?_)
     repeat (first | refine nx ?_ | refine wgF (lv (.bool false)) hn ?_)
     refine rt2 [] (congrArg (fun x => lv (.bool x)) ?_) trivial
     simp
   | true =>
     by_cases h0 : g.length = 0
     · obtain rfl := List.eq_nil_of_length_eq_zero h0
       refine z00 Tryz.func41 rfl rfl rfl rfl rfl (fun E hn hb => ?_)
       repeat (first | refine nx ?_ | refine wgF (lv (.bool false)) hn ?_)
       refine rt2 [] (congrArg (fun x => lv (.bool x)) ?_) trivial
       simp
     · have hz : ((g.length : Int) == 0) = false := by rw [beq_eq_false_iff_ne]; omega
       rw [decide_eq_false h0, decide_eq_true (by omega : 0 < g.length)]
       refine z00 Tryz.func41 rfl rfl rfl rfl rfl (fun E hn hb => ?_)
       repeat refine nx ?_
       refine rt2 [] (congrArg (fun x => lv (.bool x)) ?_) trivial
       rw [hgl, hz]
       cases G
       · rfl
       · simp
         try omega
 · change Ct _ _ [.c (.lf (.obj [.recs 3 (gnR w1), z1t w2])), I64 r] _ _ _ _ at hp
   show Ct _ _ [.agg [.lf (.obj [.recs 3 (gnR w1), z1t w2]), .lf (.ints .i64 r), .lf (.recs 3 (gnR g))]] _ _ _ _
   cases A with
   | false =>
     refine z00 Tryz.func41 rfl rfl rfl rfl rfl (fun E hn hb => ?_)
     repeat (first | refine nx ?_ | refine wgF (lv (.bool false)) hn ?_)
     refine rt2 [] (congrArg (fun x => lv (.bool x)) ?_) trivial
     simp
   | true =>
     by_cases h0 : g.length = 0
     · obtain rfl := List.eq_nil_of_length_eq_zero h0
       refine z00 Tryz.func41 rfl rfl rfl rfl rfl (fun E hn hb => ?_)
       repeat (first | refine nx ?_ | refine z4q rfl rfl ?_ | refine wgF (lv (.bool false)) hn ?_)
       refine rt2 [] (congrArg (fun x => lv (.bool x)) ?_) trivial
       simp
     · have hz : (((gnR g).length : Int) == 0) = false := by rw [hgl, beq_eq_false_iff_ne]; omega
       rw [decide_eq_false h0, decide_eq_true (by omega : 0 < g.length)]
       cases G
       · refine z00 Tryz.func41 rfl rfl rfl rfl rfl (fun E hn hb => ?_)
         repeat (first | rw [hz] | refine nx ?_ | refine z4q rfl rfl ?_ | refine wgF (lv (.bool false)) hn ?_)
         refine rt2 [] (congrArg (fun x => lv (.bool x)) ?_) trivial
         simp
       · refine z00 Tryz.func41 rfl rfl rfl rfl rfl (fun E hn hb => ?_)
         repeat (first | rw [hz] | refine nx ?_ | refine z4q rfl rfl ?_ | refine wgF (lv (.bool false)) hn ?_)
         refine rt2 [] (congrArg (fun x => lv (.bool x)) ?_) trivial
         simp

theorem z5N {α : Type} (z : α) (e : Int) (l : List Int) (p : Nat) (t : z0m) (rd : List Int → α × Nat × Int) (hp : p ≤ l.length) : p ≤ (z1p z e l p t rd).2.1 ∧ (z1p z e l p t rd).2.1 ≤ l.length := by
 unfold z1p
 split
 · exact z56 _ _ _ _ _ hp
 · exact ⟨Nat.le_refl _, hp⟩
def z3i (x : List Int) : PtT × Nat × Int :=
 let a := z1p none 0 x 0 (2, 0, true) z2P
 let b := z1p [] a.2.2 x a.2.1 (2, 1, false) z1U
 let c := z1p [] b.2.2 x b.2.1 (2, 2, true) z1i
 ((a.1, b.1, c.1), c.2.1, c.2.2)
theorem zhC (x : List Int) : (z1U x).2.1 ≤ x.length := by
 unfold z1U
 dsimp only
 split
 · split
   · exact Nat.le_refl _
   · exact Nat.le_refl _
 · exact Nat.le_refl _
theorem zhD (x : List Int) : (z3i x).2.1 ≤ x.length := by
 unfold z3i
 dsimp only
 exact (z5N _ _ _ _ _ _ (z5N _ _ _ _ _ _ (z5N _ _ _ _ _ _ (Nat.zero_le _)).2).2).2
set_option maxHeartbeats 4000000 in
theorem zeE (x : List Int) (hl : x.length ≤ 98000) (hw : WfB x) : Ct Tryz.prog 50 [.c (.ptr 0 0)] [z28 0, z04 x 0] (ptA (z3i x).1) [z28 (z3i x).2.2, z04 x (z3i x).2.1] [] := by
 have h1 := zfN x 0 0 true 52 0 z2P (Nat.zero_le _) hl hw zhq (fun y hy hwy => zfL y (by omega) hwy)
 unfold z3i
 dsimp only
 have l1 := z5N none 0 x 0 (2, 0, true) z2P (Nat.zero_le _)
 generalize z1p none 0 x 0 (2, 0, true) z2P = A at *
 obtain ⟨a, pa, ea⟩ := A
 dsimp only at *
 have h2 := zgD x pa 1 false 54 ea z1U l1.2 (by omega) hw zhC (fun y hy hwy => zei y (by omega) hwy)
 have l2 := z5N [] ea x pa (2, 1, false) z1U l1.2
 generalize z1p [] ea x pa (2, 1, false) z1U = B at *
 obtain ⟨b, pb, eb⟩ := B
 dsimp only at *
 have h3 := zgC x pb 2 true 56 eb z1i l2.2 (by omega) hw zaW (fun y hy hwy => z7M y (by omega) hwy)
 generalize z1p [] eb x pb (2, 2, true) z1i = C at *
 obtain ⟨c, pc, ec⟩ := C
 dsimp only at *
 rcases a with _ | ⟨w1, w2⟩
 · change Ct _ _ _ _ (.c (.lf (.v (.pointer none)))) _ _ at h1
   show Ct _ _ _ _ (.agg [.lf (.v (.pointer none)), .lf (.ints .i64 b), .lf (.recs 3 (gnR c))]) _ _
   refine z00 Tryz.func50 rfl rfl rfl rfl rfl (fun E hn hb => ?_)
   repeat refine nx ?_
   exact rt1 []
 · change Ct _ _ _ _ (.c (.lf (.obj [.recs 3 (gnR w1), z1t w2]))) _ _ at h1
   show Ct _ _ _ _ (.agg [.lf (.obj [.recs 3 (gnR w1), z1t w2]), .lf (.ints .i64 b), .lf (.recs 3 (gnR c))]) _ _
   refine z00 Tryz.func50 rfl rfl rfl rfl rfl (fun E hn hb => ?_)
   repeat refine nx ?_
   exact rt1 []
theorem zcj {x : List Int} (hw : WfB x) (hl : x.length ≤ 100000) : ∀ (f p : Nat) (acc r : List GnT) (s : Nat), p ≤ x.length → (∀ g ∈ acc, GnB g) → acc.length ≤ 10000 → z2V x f p acc = (r, s, 0) → (∀ g ∈ r, GnB g) ∧ r.length ≤ 10000
 | 0, p, acc, r, s, _, _, _, h => by
   rw [z2V] at h
   simp only [Prod.mk.injEq] at h
   obtain ⟨rfl, _⟩ := h
   simp
 | f + 1, p, acc, r, s, hp, ha, hl2, h => by
   rw [z2V] at h
   by_cases h1 : p < x.length
   · rw [if_pos h1] at h
     by_cases h2 : acc.length = 10000
     · rw [if_pos h2] at h; simp at h
     · rw [if_neg h2] at h
       have hle := z4S x p hp
       have hB : (z1o x p).2.2 = 0 → GnB (z1o x p).1 := fun h0 => by
         unfold z1o at h0 ⊢
         dsimp only at h0 ⊢
         split at h0
         · rename_i e1
           rw [if_pos e1]
           split at h0
           · simp at h0
           · rename_i e2
             rw [if_neg e2]
             split at h0
             · simp at h0
             · rename_i e3
               rw [if_neg e3]
               dsimp only at h0 ⊢
               exact zmq (z9t hw _ _) (by simp; omega) (Prod.ext rfl h0)
         · rename_i e1
           exact absurd h0 e1
       generalize z1o x p = A at *
       obtain ⟨a, q, e⟩ := A
       dsimp only at *
       by_cases he : e = 0
       · subst he
         rw [if_pos rfl] at h
         exact zcj hw hl f q (acc ++ [a]) r s hle.2 (fun g hg => by
           rcases List.mem_append.1 hg with h3 | h3
           · exact ha g h3
           · rw [List.mem_singleton.1 h3]; exact hB rfl) (by simp; omega) h
       · rw [if_neg he] at h
         simp only [Prod.mk.injEq] at h
         exact absurd h.2.2 he
   · rw [if_neg h1] at h
     simp only [Prod.mk.injEq] at h
     obtain ⟨rfl, _⟩ := h
     exact ⟨ha, hl2⟩
theorem z9l {x : List Int} (hw : WfB x) (hl : x.length ≤ 100000) (h : (z0y x).2.2 = 0) : (∀ g ∈ (z0y x).1, GnB g) ∧ (z0y x).1.length ≤ 10000 := by
 unfold z0y at h ⊢
 split at h
 · simp at h
 · rename_i h0
   rw [if_neg h0]
   exact zcj hw hl _ 0 [] _ (z2V x (x.length + 1) 0 []).2.1 (Nat.zero_le _) (by simp) (by simp) (Prod.ext rfl (Prod.ext rfl h))
theorem z85 {x : List Int} (h : (z0y x).2.2 = 0) : z1i x = z0y x := by
 unfold z1i z0C
 rw [if_pos h]
theorem zbb {x : List Int} (h : ¬ (z0y x).2.2 = 0) : z1i x = ([], 0, (z0y x).2.2) := by
 unfold z1i z0C
 rw [if_neg h]
theorem zck {x : List Int} (hw : WfB x) (hl : x.length ≤ 100000) : (∀ g ∈ (z1i x).1, GnB g) ∧ (z1i x).1.length ≤ 10000 := by
 by_cases h : (z0y x).2.2 = 0
 · rw [z85 h]
   exact z9l hw hl h
 · rw [zbb h]
   simp
theorem zme {x : List Int} (hw : WfB x) (hl : x.length ≤ 99000) (h : (z3K x).2.2 = 0) : (z3K x).1.length ≤ 1000000 ∧ ∀ a ∈ (z3K x).1, AtB a := by
 unfold z3K at h ⊢
 dsimp only at h ⊢
 have hww := z86 (ofT 17) x (by decide) hw
 have hwl := z2T (ofT 17) x
 generalize z0q (ofT 17) x = W at *
 obtain ⟨h1, h2⟩ := z5s (l := W) (p := 0) (q := (z1d W 0).2.1) (r := (z1d W 0).1) hww (Prod.ext rfl (Prod.ext rfl h))
 rw [List.drop_zero] at h2
 have hlen := congrArg List.length h2
 rw [List.length_append] at hlen
 exact zbY h1 (fun z hz => hww z (by rw [h2]; exact List.mem_append_left _ hz)) (by omega)
theorem z34 {α : Type} (z : α) (l : List Int) (p : Nat) (t : z0m) (rd : List Int → α × Nat × Int) : (z0o z l p t rd).1 = z ∨ ∃ x : List Int, x.length ≤ l.length ∧ (∀ y ∈ x, y ∈ l) ∧ (rd x).2.2 = 0 ∧ (z0o z l p t rd).1 = (rd x).1 := by
 have hm := z0w l p t
 unfold z0o
 dsimp only
 split
 · split
   · split
     · rename_i h
       split
       · exact .inl rfl
       · exact .inr ⟨_, hm.1, hm.2, h, rfl⟩
     · exact .inl rfl
   · exact .inl rfl
 · exact .inl rfl
theorem z6e {α : Type} (z : α) (e : Int) (l : List Int) (p : Nat) (t : z0m) (rd : List Int → α × Nat × Int) : (z1p z e l p t rd).1 = z ∨ ∃ x : List Int, x.length ≤ l.length ∧ (∀ y ∈ x, y ∈ l) ∧ (rd x).2.2 = 0 ∧ (z1p z e l p t rd).1 = (rd x).1 := by
 unfold z1p
 split
 · exact z34 _ _ _ _ _
 · exact .inl rfl
theorem zeF {x : List Int} (hw : WfB x) (hl : x.length ≤ 98000) : z9k (z2P x).1 := by
 unfold z2P
 dsimp only
 split
 · split
   · rcases z34 [] x 0 (2, 0, true) z1i with h | ⟨y, h1, h2, h3, h⟩
     · rw [h]
       exact ⟨by simp, by simp, by simp, by simp⟩
     · rw [h]
       have := zck (x := y) (fun z hz => hw z (h2 z hz)) (by omega)
       exact ⟨by dsimp only; omega, this.1, by simp, by simp⟩
   · split
     · rcases z34 [] x 0 (2, 1, true) z3K with h | ⟨y, h1, h2, h3, h⟩
       · rw [h]
         exact ⟨by simp, by simp, by simp, by simp⟩
       · rw [h]
         have := zme (x := y) (fun z hz => hw z (h2 z hz)) (by omega) h3
         exact ⟨by simp, by simp, this.1, this.2⟩
     · exact ⟨by simp, by simp, by simp, by simp⟩
 · trivial
theorem zbc (x : List Int) : (z1U x).1.length ≤ 32 := by
 unfold z1U
 dsimp only
 split
 · split
   · exact z7W _ _
   · simp
 · simp
theorem zmf {x : List Int} (hw : WfB x) (hl : x.length ≤ 98000) : PtB (z3i x).1 := by
 have e1 : z9k (z1p none 0 x 0 (2, 0, true) z2P).1 := by
   rcases z6e none 0 x 0 (2, 0, true) z2P with h | ⟨y, h1, h2, h3, h⟩
   · rw [h]; trivial
   · rw [h]; exact zeF (fun z hz => hw z (h2 z hz)) (by omega)
 have e2 : ∀ (e : Int) (p : Nat), (z1p [] e x p (2, 1, false) z1U).1.length ≤ 32 := fun e p => by
   rcases z6e [] e x p (2, 1, false) z1U with h | ⟨y, h1, h2, h3, h⟩
   · rw [h]; simp
   · rw [h]; exact zbc y
 have e3 : ∀ (e : Int) (p : Nat), (∀ g ∈ (z1p [] e x p (2, 2, true) z1i).1, GnB g) ∧ (z1p [] e x p (2, 2, true) z1i).1.length ≤ 10000 := fun e p => by
   rcases z6e [] e x p (2, 2, true) z1i with h | ⟨y, h1, h2, h3, h⟩
   · rw [h]; simp
   · rw [h]; exact zck (fun z hz => hw z (h2 z hz)) (by omega)
 unfold z3i
 dsimp only
 generalize z1p none 0 x 0 (2, 0, true) z2P = A0 at *
 have e2 := e2 A0.2.2 A0.2.1
 generalize z1p [] A0.2.2 x A0.2.1 (2, 1, false) z1U = B0 at *
 have e3 := e3 B0.2.2 B0.2.1
 generalize z1p [] B0.2.2 x B0.2.1 (2, 2, true) z1i = C0 at *
 refine ⟨e1, ?_, ?_, ?_⟩
 all_goals first | exact e3.1 | (dsimp only; omega) | trace_state

theorem z4n {α : Type} (z : α) (l : List Int) (p : Nat) (t : z0m) {f g : List Int → α × Nat × Int} (h : ∀ x, (f x).2.2 = (g x).2.2 ∧ ((g x).2.2 = 0 → f x = g x)) : z0o z l p t f = z0o z l p t g := by
 unfold z0o
 dsimp only
 split
 · split
   · obtain ⟨h1, h2⟩ := h (z0g l p t).1
     by_cases h0 : (g (z0g l p t).1).2.2 = 0
     · rw [h2 h0]
     · rw [if_neg h0, if_neg (by rw [h1]; exact h0), h1]
   · rfl
 · rfl
theorem z7I (x : List Int) : (z1i x).2.2 = (z0y x).2.2 ∧ ((z0y x).2.2 = 0 → z1i x = z0y x) := by
 refine ⟨?_, z85⟩
 by_cases h : (z0y x).2.2 = 0
 · rw [z85 h]
 · rw [zbb h]
theorem z8O (x : List Int) : (z2P x).2.2 = (z41 x).2.2 ∧ ((z41 x).2.2 = 0 → z2P x = z41 x) := by
 unfold z2P z41
 rw [z4n [] x 0 (2, 0, true) z7I]
 dsimp only
 by_cases h1 : (z09 x 0).2.2 = 0
 · rw [if_pos h1, if_pos h1]
   by_cases h2 : isH x 0 (2, 0, true) = true
   · rw [if_pos h2, if_pos h2]
     by_cases h3 : (z0o [] x 0 (2, 0, true) z0y).2.2 = 0
     · rw [if_pos h3, h3]
       exact ⟨rfl, fun _ => rfl⟩
     · rw [if_neg h3]
       exact ⟨rfl, fun h => absurd h h3⟩
   · rw [if_neg h2, if_neg h2]
     by_cases h4 : isH x 0 (2, 1, true) = true
     · rw [if_pos h4, if_pos h4]
       by_cases h3 : (z0o [] x 0 (2, 1, true) z3K).2.2 = 0
       · rw [if_pos h3, h3]
         exact ⟨rfl, fun _ => rfl⟩
       · rw [if_neg h3]
         exact ⟨rfl, fun h => absurd h h3⟩
     · rw [if_neg h4, if_neg h4]
       exact ⟨rfl, fun h => absurd h (by decide)⟩
 · rw [if_neg h1, if_neg h1]
   exact ⟨rfl, fun h => absurd h h1⟩
theorem zhE (x : List Int) : z6m x = (if (z3i x).2.2 = 0 then (if (z3i x).2.1 < x.length then ((none, [], []), 7) else if z6l (z3i x).1 = true then ((z3i x).1, 0) else ((none, [], []), 6)) else ((none, [], []), (z3i x).2.2)) := by
 unfold z6m z3i z1p
 rw [if_pos rfl, z4n none x 0 (2, 0, true) z8O]
 dsimp only
 generalize z0o none x 0 (2, 0, true) z41 = A
 obtain ⟨a, pa, ea⟩ := A
 dsimp only
 by_cases h1 : ea = 0
 · subst h1
   rw [if_pos rfl]
   simp only [if_true]
   generalize z0o [] x pa (2, 1, false) z1U = B
   obtain ⟨b, pb, eb⟩ := B
   dsimp only
   by_cases h2 : eb = 0
   · subst h2
     simp only [if_true]
     rw [z4n [] x pb (2, 2, true) z7I]
   · simp only [if_neg h2]
 · simp only [if_neg h1]
theorem z5e : z27 (.agg [.lf (.v (.pointer none)), z2I, z2I]) (ptA (none, [], [])) := ⟨.inl rfl, .inr ⟨rfl, .inl ⟨_, rfl⟩⟩, .inr ⟨rfl, .inr ⟨_, rfl⟩⟩, trivial⟩
set_option maxHeartbeats 4000000 in
theorem zhF (l : List Int) (p : Nat) (hp : p ≤ l.length) (hl : l.length ≤ 98000) (hw : WfB l) : Ct Tryz.prog 49 [.c (.ptr 0 0), .c (.fn (.func 50) [] []), .c (.fn (.func 41) [] [])] [z04 l p] (.tup [ptA (z1H l p).1, lv (.int .i64 (z1H l p).2.2)]) [z04 l (z1H l p).2.1] [] := by
 have hop := z1V l p (ofT 16) hp (by omega) hw
 have hoe := z2x l p (ofT 16) hp (by omega) hw
 have hmem := z0w l p (ofT 16)
 have hof := z1E 16
 have hat := z1q l p
 have hle0 := z2h l p (ofT 16) hp
 unfold z1H
 dsimp only
 generalize z0g l p (ofT 16) = X at *
 obtain ⟨x, q, e⟩ := X
 dsimp only at *
 by_cases he : e = 0
 · subst he
   have hop := hop rfl
   rw [if_pos rfl]
   have hbk := z1x l q p hle0.1 (by omega)
   have hwx : WfB x := fun z hz => hw z (hmem.2 z hz)
   have hr := zeE x (by omega) hwx
   have hB := zeD (z3i x).1 (zmf hwx (by omega))
   have hle := zhD x
   rw [zhE]
   have hlf := z0R x (z3i x).2.1 hle (by omega)
   generalize z3i x = R at *
   obtain ⟨⟨w, r, g⟩, s, f⟩ := R
   dsimp only at *
   generalize z6l (w, r, g) = K at *
   rcases w with _ | ⟨w1, w2⟩
   · change Ct _ _ _ _ (.agg [.lf (.v (.pointer none)), .lf (.ints .i64 r), .lf (.recs 3 (gnR g))]) _ _ at hr
     change Ct _ _ [.agg [.lf (.v (.pointer none)), .lf (.ints .i64 r), .lf (.recs 3 (gnR g))]] _ _ _ _ at hB
     by_cases hf : f = 0
     · subst hf
       rw [if_pos rfl]
       by_cases hlt : s < x.length
       · rw [if_pos hlt]
         refine z00 Tryz.func49 rfl rfl rfl rfl rfl (fun E hn hb => ?_)
         repeat refine nx ?_
         refine rtU [] (hu := ?_)
         exact ⟨z5e, .inl rfl, trivial⟩
       · rw [if_neg hlt]
         cases K with
         | true =>
           refine z00 Tryz.func49 rfl rfl rfl rfl rfl (fun E hn hb => ?_)
           repeat refine nx ?_
           exact rt1 []
         | false =>
           refine z00 Tryz.func49 rfl rfl rfl rfl rfl (fun E hn hb => ?_)
           repeat refine nx ?_
           refine rtU [] (hu := ?_)
           exact ⟨z5e, .inl rfl, trivial⟩
     · rw [if_neg hf, if_neg hf]
       refine z00 Tryz.func49 rfl rfl rfl rfl rfl (fun E hn hb => ?_)
       repeat refine nx ?_
       refine rtU [] (hu := ?_)
       exact ⟨z5e, .inl rfl, trivial⟩
   · change Ct _ _ _ _ (.agg [.lf (.obj [.recs 3 (gnR w1), z1t w2]), .lf (.ints .i64 r), .lf (.recs 3 (gnR g))]) _ _ at hr
     change Ct _ _ [.agg [.lf (.obj [.recs 3 (gnR w1), z1t w2]), .lf (.ints .i64 r), .lf (.recs 3 (gnR g))]] _ _ _ _ at hB
     by_cases hf : f = 0
     · subst hf
       rw [if_pos rfl]
       by_cases hlt : s < x.length
       · rw [if_pos hlt]
         refine z00 Tryz.func49 rfl rfl rfl rfl rfl (fun E hn hb => ?_)
         repeat refine nx ?_
         refine rtU [] (hu := ?_)
         exact ⟨z5e, .inl rfl, trivial⟩
       · rw [if_neg hlt]
         cases K with
         | true =>
           refine z00 Tryz.func49 rfl rfl rfl rfl rfl (fun E hn hb => ?_)
           repeat refine nx ?_
           exact rt1 []
         | false =>
           refine z00 Tryz.func49 rfl rfl rfl rfl rfl (fun E hn hb => ?_)
           repeat refine nx ?_
           refine rtU [] (hu := ?_)
           exact ⟨z5e, .inl rfl, trivial⟩
     · rw [if_neg hf, if_neg hf]
       refine z00 Tryz.func49 rfl rfl rfl rfl rfl (fun E hn hb => ?_)
       repeat refine nx ?_
       refine rtU [] (hu := ?_)
       exact ⟨z5e, .inl rfl, trivial⟩
 · have hoe := hoe he
   rw [if_neg he]
   refine z00 Tryz.func49 rfl rfl rfl rfl rfl (fun E hn hb => ?_)
   repeat refine nx ?_
   refine rtU [] (hu := ?_)
   exact ⟨z5e, .inl rfl, trivial⟩
end Go.Proofs.YtaagjnlkinojcaaGreat

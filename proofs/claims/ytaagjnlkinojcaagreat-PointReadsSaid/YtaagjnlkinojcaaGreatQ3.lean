/-
  Chapter 14: steps and names that are right, both sides. The conditions: rows that a machine can hold.
-/
import Derived.Test.YtaagjnlkinojcaaGreatN8
import Derived.Test.YtaagjnlkinojcaaGreatA6
import Derived.Test.YtaagjnlkinojcaaGreatW27
import Derived.Test.YtaagjnlkinojcaaGreatE7
import Derived.Test.YtaagjnlkinojcaaGreatD8
import Derived.Test.YtaagjnlkinojcaaGreatC12
import Derived.Test.YtaagjnlkinojcaaGreatD15
import Derived.Test.YtaagjnlkinojcaaGreatE14
namespace Go.Proofs.YtaagjnlkinojcaaGreat
set_option linter.unusedSimpArgs false
set_option linter.unusedVariables false
open Go.Sx
set_option maxRecDepth 10000
abbrev atA (a : AtT) : Av := .agg [.lf (.ints .i64 a.1), .lf (.ints .u8 a.2)]
structure AtB (a : AtT) : Prop where
 o : a.1.length ≤ 1000000
 l : a.2.length ≤ 100000
 w : WfB a.2
theorem z8l (x : List Int) (hl : x.length ≤ 100000) (hw : WfB x) : Ct Tryz.prog 223 [B8 x] [] (lv (.bool (z89 x))) [] [] := by
 have hcn := z2M x (by omega)
 have hwh := z9O x 0 (Nat.zero_le _) hl hw
 unfold z89
 generalize z12 x 0 = W at *
 obtain ⟨rs, e⟩ := W
 dsimp only at *
 by_cases he : e = 0
 · subst he
   rw [if_pos rfl] at hwh
   refine z00 Tryz.func223 rfl rfl rfl rfl rfl (fun E hn hb => ?_)
   repeat refine nx ?_
   refine rt2 [] (congrArg (fun x => lv (.bool x)) ?_) trivial
   have h1 : ((rs.length : Int) == 1) = decide (rs.length = 1) := by rw [Bool.eq_iff_iff]; simp; omega
   simp [h1]
 · rw [if_neg he] at hwh
   rw [decide_eq_false he]
   refine z00 Tryz.func223 rfl rfl rfl rfl rfl (fun E hn hb => ?_)
   repeat refine nx ?_
   refine rt2 [] (congrArg (fun x => lv (.bool x)) ?_) trivial
   simp [he]
theorem zhe {a : AtT} (hr : z0S a.1 = true) : (atW a).length ≤ a.2.length + 1000 := by
 unfold atW z1O
 rw [if_pos hr]
 dsimp only
 have := z2T (ofT 16) (z0q (ofT 6) (z0E (z17 a.1)) ++ a.2)
 have := z2T (ofT 6) (z0E (z17 a.1))
 have := z4b hr
 rw [List.length_append] at *
 omega
theorem zaL (a : AtT) (h : AtB a) (hr : z21 a = true) : Ct Tryz.prog 207 [atA a] [] (B8 (atW a)) [] [] := by
 obtain ⟨o, v⟩ := a
 obtain ⟨h1, h2, h3⟩ := h
 dsimp only at h1 h2 h3
 have hw := z9T o h1
 have hs := z8l v h2 h3
 unfold z21 at hr
 simp only [Bool.and_eq_true] at hr
 have hn := zhe (a := (o, v)) hr.1
 have he : (z1O o).2 = 0 := by unfold z1O; rw [if_pos hr.1]
 rw [he] at hw
 rw [hr.2] at hs
 have hl : (z1O o).1.length ≤ 1000 := by
   unfold z1O
   rw [if_pos hr.1]
   have := z2T (ofT 6) (z0E (z17 o))
   have := z4b hr.1
   dsimp only
   omega
 have hq := zbT [(z1O o).1, v] (by simp) (by simp; omega)
 have e2 : atW (o, v) = z0q (ofT 16) [(z1O o).1, v].flatten := by unfold atW; simp
 rw [e2]
 generalize z0q (ofT 16) [(z1O o).1, v].flatten = Y at *
 generalize (z1O o).1 = X at *
 refine z00 Tryz.func207 rfl rfl rfl rfl rfl (fun E hn hb => ?_)
 repeat refine nx ?_
 exact rt1 []
theorem zfz (a : AtT) (h : AtB a) (hr : z21 a = false) : Ct Tryz.prog 207 [atA a] [] (lv (.slice none 0 0)) [] [] := by
 obtain ⟨o, v⟩ := a
 obtain ⟨h1, h2, h3⟩ := h
 dsimp only at h1 h2 h3
 have hw := z9T o h1
 have hs := z8l v h2 h3
 unfold z21 at hr
 dsimp only at hr
 by_cases ho : z0S o = true
 · rw [ho, Bool.true_and] at hr
   rw [hr] at hs
   have he : (z1O o).2 = 0 := by unfold z1O; rw [if_pos ho]
   rw [he] at hw
   refine z00 Tryz.func207 rfl rfl rfl rfl rfl (fun E hn hb => ?_)
   repeat refine nx ?_
   exact rt1 []
 · have he : (z1O o).2 = 1 := by unfold z1O; rw [if_neg ho]
   rw [he] at hw
   refine z00 Tryz.func207 rfl rfl rfl rfl rfl (fun E hn hb => ?_)
   repeat refine nx ?_
   exact rt1 []
theorem zfA (o : List Int) (hr : z0S o = true) : Ct Tryz.prog 213 [I64 o] [] (.c (.own 0 1 0 (z0q (ofT 6) (z0E (z17 o))).length)) [] [.row (.ints .u8 (z0q (ofT 6) (z0E (z17 o))))] := by
 have hc := zeS o hr
 have hf := z2u 6
 have hl := z4b hr
 have hw := z7H (ofT 6) (z0E (z17 o)) (by decide) (by omega)
 generalize z0E (z17 o) = X at *
 generalize ofT 6 = t at *
 generalize z0q t X = Y at *
 refine z00 Tryz.func213 rfl rfl rfl rfl rfl (fun E hn hb => ?_)
 repeat refine nx ?_
 exact rt1 [70]
theorem zdY (a : AtT) (h : AtB a) (hr : z21 a = true) : Ct Tryz.prog 183 [atA a] [] (.tup [B8 (atW a), lv (.bool true)]) [] [] := by
 obtain ⟨o, v⟩ := a
 obtain ⟨h1, h2, h3⟩ := h
 dsimp only at h1 h2 h3
 have hs := z5d v 0 (Nat.zero_le _) h2 h3
 have hg := z7J o h1
 unfold z21 z89 at hr
 simp only [Bool.and_eq_true, decide_eq_true_eq] at hr
 obtain ⟨ho, hz, h1l⟩ := hr
 have hwo := zfA o ho
 have hf := z2u 16
 have hco := z4b ho
 have hwl := z2T (ofT 6) (z0E (z17 o))
 have e2 : atW (o, v) = z0q (ofT 16) (z0q (ofT 6) (z0E (z17 o)) ++ v) := by unfold atW z1O; rw [if_pos ho]
 have hq := z8M (ofT 16) (z0q (ofT 6) (z0E (z17 o)) ++ v) (by decide) (by rw [List.length_append]; omega)
 rw [e2]
 rw [ho] at hg
 rw [hz] at hs
 have hl6 : (z0q (ofT 6) (z0E (z17 o))).length ≤ 1000 := by omega
 generalize z0q (ofT 16) (z0q (ofT 6) (z0E (z17 o)) ++ v) = Y at *
 generalize z0q (ofT 6) (z0E (z17 o)) = X at *
 generalize (z12 v 0).1 = rs at *
 have h1 : (z2l rs).length = 1 := by simp [h1l]
 generalize z2l rs = R at *
 refine z00 Tryz.func183 rfl rfl rfl rfl rfl (fun E hn hb => ?_)
 repeat refine nx ?_
 exact rt1 []
theorem zdZ (a : AtT) (h : AtB a) (hr : z21 a = false) : Ct Tryz.prog 183 [atA a] [] (.tup [B8 [], lv (.bool false)]) [] [] := by
 obtain ⟨o, v⟩ := a
 obtain ⟨h1, h2, h3⟩ := h
 dsimp only at h1 h2 h3
 have hs := z5d v 0 (Nat.zero_le _) h2 h3
 have hg := z7J o h1
 unfold z21 z89 at hr
 dsimp only at hr
 generalize z12 v 0 = W at *
 obtain ⟨rs, e⟩ := W
 dsimp only at *
 generalize z0S o = G at *
 by_cases he : e = 0
 · subst he
   by_cases hn1 : rs.length = 1
   · rw [hn1] at hr
     obtain rfl : G = false := by simpa using hr
     refine z00 Tryz.func183 rfl rfl rfl rfl rfl (fun E hn hb => ?_)
     repeat refine nx ?_
     exact rtU []
   · refine z00 Tryz.func183 rfl rfl rfl rfl rfl (fun E hn hb => ?_)
     repeat refine nx ?_
     exact rtU []
 · refine z00 Tryz.func183 rfl rfl rfl rfl rfl (fun E hn hb => ?_)
   repeat refine nx ?_
   exact rtU []

abbrev rdN : Av := .agg [.ptr 0 0]
theorem zhf {l : List Int} {p : Nat} {t : z0m} (h : ¬ (z0g l p t).2.2 = 0) : (z0g l p t).1 = [] ∧ (z0g l p t).2.1 = p := by
 unfold z0g z0C at h ⊢
 by_cases h2 : (z1I l p t).2.2 = 0
 · rw [if_pos h2] at h; exact absurd h2 h
 · rw [if_neg h2]; exact ⟨rfl, rfl⟩
theorem zhg (y : List Int) (q : Nat) (hq : q ≤ y.length) (hw : WfB y) : q ≤ (z4c y q).2.1 ∧ (z4c y q).2.1 ≤ y.length := by
 have hle := z13 y q hq
 have hpos := z1F y q hw
 unfold z4c
 generalize z09 y q = R at *
 obtain ⟨⟨t, n⟩, r, e⟩ := R
 dsimp only at *
 split
 · split
   · exact hle
   · dsimp only
     omega
 · exact hle
theorem zfB (y : List Int) (q : Nat) (hq : q ≤ y.length) (hl : y.length ≤ 1000000) (hw : WfB y) : Ct Tryz.prog 234 [rdN] [z04 y q] (.tup [B8 (z4c y q).1, lv (.int .i64 (z4c y q).2.2)]) [z04 y (z4c y q).2.1] [] := by
 have hr := z4s y q hq hl hw
 have hle := z13 y q hq
 have hpos := z1F y q hw
 have hat := z1q y q
 unfold z4c
 generalize z09 y q = F at *
 obtain ⟨⟨⟨t1, t2, t3⟩, n⟩, r, e⟩ := F
 dsimp only at *
 by_cases he : e = 0
 · subst he
   rw [if_pos rfl]
   have hat2 := z1q y r
   have hlf := z0R y r hle.2 (by omega)
   have hbk := z1x y r q hle.1 (by omega)
   by_cases hN : (y.length : Int) - r < n
   · rw [if_pos hN]
     refine z00 Tryz.func234 rfl rfl rfl rfl rfl (fun E hn hb => ?_)
     repeat refine nx ?_
     exact rtU []
   · rw [if_neg hN]
     obtain ⟨N, rfl⟩ : ∃ N : Nat, n = N := ⟨n.toNat, by omega⟩
     rw [Int.toNat_natCast]
     have htk := z5Q y q (r - q + N) (by omega) hl
     rw [show ((r - q + N : Nat) : Int) = ((r : Int) - (q : Int)) + (N : Int) by omega, show q + (r - q + N) = r + N by omega] at htk
     refine z00 Tryz.func234 rfl rfl rfl rfl rfl (fun E hn hb => ?_)
     repeat refine nx ?_
     exact rt1 []
 · rw [if_neg he]
   refine z00 Tryz.func234 rfl rfl rfl rfl rfl (fun E hn hb => ?_)
   repeat refine nx ?_
   exact rtU []
abbrev atE (a : AtT) (e : Int) : Av := .tup [atA a, lv (.int .i64 e)]
theorem z8m : z27 (.agg [.lf (.v (.slice none 0 0)), .lf (.v (.slice none 0 0))]) (atA ([], [])) := by
 exact ⟨.inr ⟨rfl, .inl ⟨_, rfl⟩⟩, .inr ⟨rfl, .inl ⟨_, rfl⟩⟩, trivial⟩
set_option maxHeartbeats 4000000 in
theorem zhh (l : List Int) (p : Nat) (hp : p ≤ l.length) (hl : l.length ≤ 1000000) (hw : WfB l) : Ct Tryz.prog 219 [rdN] [z04 l p] (atE (z2f l p).1 (z2f l p).2.2) [z04 l (z2f l p).2.1] [] := by
 have hho := z1E 16
 have hop := z1V l p (ofT 16) hp hl hw
 have hoe := z2x l p (ofT 16) hp hl hw
 have hmem := z0w l p (ofT 16)
 have hst := @zhf l p (ofT 16)
 unfold z2f
 generalize z0g l p (ofT 16) = X at *
 obtain ⟨x, q, e⟩ := X
 dsimp only at *
 by_cases he : e = 0
 · subst he
   have hop := hop rfl
   rw [if_pos rfl]
   have hwx : WfB x := fun y hy => hw y (hmem.2 y hy)
   have h1 := zfJ x 0 (Nat.zero_le _) (by omega) hwx
   have h1l := z98 x 0 (Nat.zero_le _)
   unfold z78
   generalize z3c x 0 = O at *
   obtain ⟨o, p1, f1⟩ := O
   dsimp only at *
   by_cases hf1 : f1 = 0
   · subst hf1
     rw [if_pos rfl]
     have h2 := zfB x p1 h1l.2 (by omega) hwx
     have h2l := zhg x p1 h1l.2 hwx
     generalize z4c x p1 = V at *
     obtain ⟨v, p2, f2⟩ := V
     dsimp only at *
     by_cases hf2 : f2 = 0
     · subst hf2
       rw [if_pos rfl]
       have h4 := z0R x p2 h2l.2 (by omega)
       by_cases hlt : p2 < x.length
       · rw [if_pos hlt]
         refine z00 Tryz.func219 rfl rfl rfl rfl rfl (fun E hn hb => ?_)
         repeat refine nxw ?_
         refine z5A [76] [(3, 0), (3, 76)] ?_
         repeat (first | refine nx ?_ | refine z6g [0] hn hop ?_)
         refine rtU [] (hu := ?_)
         exact ⟨z8m, .inl rfl, trivial⟩
       · rw [if_neg hlt]
         refine z00 Tryz.func219 rfl rfl rfl rfl rfl (fun E hn hb => ?_)
         repeat refine nxw ?_
         refine z5A [76] [(3, 0), (3, 76)] ?_
         repeat (first | refine nx ?_ | refine z6g [0] hn hop ?_)
         exact rt1 []
     · rw [if_neg hf2]
       refine z00 Tryz.func219 rfl rfl rfl rfl rfl (fun E hn hb => ?_)
       repeat refine nxw ?_
       refine z5A [76] [(3, 0), (3, 76)] ?_
       repeat (first | refine nx ?_ | refine z6g [0] hn hop ?_)
       refine rtU [] (hu := ?_)
       exact ⟨z8m, .inl rfl, trivial⟩
   · rw [if_neg hf1]
     refine z00 Tryz.func219 rfl rfl rfl rfl rfl (fun E hn hb => ?_)
     repeat refine nxw ?_
     refine z5A [76] [(3, 0), (3, 76)] ?_
     repeat (first | refine nx ?_ | refine z6g [0] hn hop ?_)
     refine rtU [] (hu := ?_)
     exact ⟨z8m, .inl rfl, trivial⟩
 · have hoe := hoe he
   obtain ⟨rfl, rfl⟩ := hst he
   rw [if_neg he]
   refine z00 Tryz.func219 rfl rfl rfl rfl rfl (fun E hn hb => ?_)
   repeat refine nxw ?_
   refine z5A [] [(3, 0)] ?_
   repeat (first | refine nx ?_ | refine z6g [0] hn hoe ?_)
   refine rtU [] (hu := ?_)
   exact ⟨z8m, .inl rfl, trivial⟩

abbrev atD : AtT := ([], [])
abbrev z1t (r : List AtT) : Leaf := .recs 2 (r.map atL)
abbrev z4E (r : List AtT) : Av := .c (.lf (z1t r))
abbrev nmL (n : List (List AtT)) : Leaf := .recs 1 (n.map fun r => [z1t r])
abbrev nmV (n : List (List AtT)) : Av := .c (.lf (nmL n))
theorem zaM : ∀ (r : List AtT), z3v r = true ↔ ∀ i, i + 1 < r.length → z0D (atW (r.getD i atD)) (atW (r.getD (i + 1) atD)) < 0
 | [] => by simp [z3v]
 | [a] => by simp [z3v]
 | a :: b :: l => by
   have ih := zaM (b :: l)
   rw [z3v, Bool.and_eq_true, decide_eq_true_eq, ih]
   constructor
   · rintro ⟨h1, h2⟩ i hi
     cases i with
     | zero => exact h1
     | succ i => exact h2 i (by simpa using hi)
   · intro h
     exact ⟨h 0 (by simp), fun i hi => h (i + 1) (by simpa using hi)⟩
theorem z7T {α : Type} {l : List α} {i : Nat} {d : α} (h : i < l.length) : l.take (i + 1) = l.take i ++ [l.getD i d] := by
 rw [List.take_add_one, List.getD_eq_getElem?_getD, List.getElem?_eq_getElem h]
 rfl
def zd6 (r : List AtT) (i : Nat) : Prop := ∀ j, j < i → z21 (r.getD j atD) = true ∧ (0 < j → z0D (atW (r.getD (j - 1) atD)) (atW (r.getD j atD)) < 0)
theorem z4M (r : List AtT) : z11 r = true ↔ (1 ≤ r.length ∧ r.length ≤ 16) ∧ zd6 r r.length := by
 unfold z11 zd6
 simp only [Bool.and_eq_true, decide_eq_true_eq, List.all_eq_true, zaM]
 constructor
 · rintro ⟨⟨h1, h2⟩, h3⟩
   refine ⟨h1, fun j hj => ⟨?_, fun h0 => ?_⟩⟩
   · rw [List.getD_eq_getElem?_getD, List.getElem?_eq_getElem hj]
     exact h2 _ (List.getElem_mem hj)
   · have := h3 (j - 1) (by omega)
     rwa [show j - 1 + 1 = j by omega] at this
 · rintro ⟨h1, h2⟩
   refine ⟨⟨h1, fun a ha => ?_⟩, fun i hi => (h2 (i + 1) hi).2 (by omega)⟩
   obtain ⟨j, hj, rfl⟩ := List.mem_iff_getElem.1 ha
   have := (h2 j hj).1
   rwa [List.getD_eq_getElem?_getD, List.getElem?_eq_getElem hj] at this
theorem z7k {r : List AtT} (h : ∀ a ∈ r, AtB a) {i : Nat} (hi : i < r.length) : AtB (r.getD i atD) := by
 rw [List.getD_eq_getElem?_getD, List.getElem?_eq_getElem hi]
 exact h _ (List.getElem_mem hi)
set_option maxHeartbeats 8000000 in
theorem zbK (r : List AtT) (hb1 : ∀ a ∈ r, AtB a) (hl : r.length ≤ 1000000) : Ct Tryz.prog 178 [z4E r] [] (.tup [z4i (if z11 r = true then r.map atW else []), lv (.bool (z11 r))]) [] [] := by
 have hml : (r.map atL).length = r.length := List.length_map ..
 by_cases h1 : r.length = 0
 · obtain rfl := List.eq_nil_of_length_eq_zero h1
   refine z00 Tryz.func178 rfl rfl rfl rfl rfl (fun E hn hb => ?_)
   repeat refine nx ?_
   exact rtU []
 by_cases h16 : 16 < r.length
 · have hS : z11 r = false := by
     rw [Bool.eq_false_iff]
     intro h
     have := ((z4M r).1 h).1
     omega
   rw [hS, if_neg (by simp)]
   refine z00 Tryz.func178 rfl rfl rfl rfl rfl (fun E hn hb => ?_)
   repeat refine nx ?_
   exact rtU []
 refine z00 Tryz.func178 rfl rfl rfl rfl rfl (fun E hn hb => ?_)
 repeat refine nx ?_
 refine z05 rfl (by simp) (fun hc => ?_) (fun hc => ?_)
 · exfalso
   rw [hml, show ((r.length : Int) == 0) = false by rw [beq_eq_false_iff_ne]; omega, show decide ((16 : Int) < (r.length : Int)) = false by rw [decide_eq_false_iff_not]; omega] at hc
   cases hc
 clear hc
 repeat refine nx ?_
 rw [hml]
 have hS0 := z4M r
 generalize z11 r = S at *
 refine z10 4 900 1 (.recs 1 []) rfl rfl (.inr (.inr ⟨_, rfl⟩)) ?_
 refine z0a (St.le_of (l := [(4, .c (.own 900 1 0 (z2l ((r.take 0).map atW)).length)), (16, z4E r), (17, lv (.int .i64 (r.length : Int))), (18, lv (.int .i64 ((0 : Nat) : Int)))]) (h := [(900, .row (.recs 1 (z2l ((r.take 0).map atW))))]) (by refine ⟨?_, ?_⟩ <;> (repeat' (first | exact trivial | exact rfl | refine ⟨?_, ?_⟩)) <;> first | exact rfl | (simp; done) | skip)) ?_
 refine z0j (ι := {i : Nat // i ≤ r.length ∧ zd6 r i}) (fun i => St.of [(4, .c (.own 900 1 0 (z2l ((r.take i.1).map atW)).length)), (16, z4E r), (17, lv (.int .i64 (r.length : Int))), (18, lv (.int .i64 (i.1 : Int)))] [(900, .row (.recs 1 (z2l ((r.take i.1).map atW))))]) (fun i => r.length - i.1) (fun i => ?_) ⟨0, Nat.zero_le _, fun j hj => by omega⟩
 obtain ⟨i, hi, hu⟩ := i
 dsimp only
 by_cases hi2 : i < r.length
 · have hq : r.getD (i : Int).toNat default = r.getD i atD := rfl
   have hb2 := z7k hb1 hi2
   have hw := zaL _ hb2
   have hwn := zfz _ hb2
   by_cases ha : z21 (r.getD i atD) = true
   · have hw := hw ha
     clear hwn
     by_cases h0 : i = 0
     · subst h0
       generalize hA : r.getD 0 atD = a at *
       have hne : (atW a).length ≠ 0 := by have := z2a (ofT 16) ((z1O a.1).1 ++ a.2); unfold atW; omega
       have hnx : (r.take 1).map atW = [atW a] := by rw [z7T (d := atD) hi2, List.take_zero, List.nil_append, List.map_singleton]; exact congrArg (fun x => [atW x]) hA
       generalize atW a = X at *
       obtain ⟨o, v⟩ := a
       repeat (first | refine nx ?_ | rw [hq])
       refine zb1 (neg := false) rfl rfl (by rw [hn]; rfl) Tryz.underlying28 rfl (by simp) (by simp [szD]) (fun b hb0 => ?_)
       simp only [z0c] at hb0
       cases b with
       | true => exact absurd (hb0 rfl) hne
       | false =>
         repeat refine nx ?_
         refine wgF (lv (.int .i64 0)) hn ?_
         repeat refine nx ?_
         refine z06 ⟨1, hi2, fun j hj => by obtain rfl : j = 0 := by omega
                                            rw [hA]; exact ⟨ha, fun h => absurd h (by omega)⟩⟩ (by dsimp only; omega) (St.le_of ⟨⟨?_, rfl, rfl, rfl⟩, ?_⟩)
         · rw [hnx]; rfl
         · rw [hnx]; rfl
     · have hcm := z9Q (atW (r.getD (i - 1) atD)) (atW (r.getD i atD)) (by have := z4D (hu (i - 1) (by omega)).1; have := (z7k hb1 (show i - 1 < r.length by omega)).l; omega) (by have := z4D ha; have := hb2.l; omega)
       have hq2 : ((r.take i).map atW).getD (0 + ((i : Int) - 1).toNat) [] = atW (r.getD (i - 1) atD) := by
         rw [show 0 + ((i : Int) - 1).toNat = i - 1 by omega, List.getD_eq_getElem?_getD, List.getElem?_map, List.getElem?_take, if_pos (by omega), List.getD_eq_getElem?_getD, List.getElem?_eq_getElem (by omega : i - 1 < r.length)]
         rfl
       have hnx : (r.take (i + 1)).map atW = (r.take i).map atW ++ [atW (r.getD i atD)] := by rw [z7T (d := atD) hi2, List.map_append]; rfl
       have hne : (atW (r.getD i atD)).length ≠ 0 := by have := z2a (ofT 16) ((z1O (r.getD i atD).1).1 ++ (r.getD i atD).2); unfold atW; omega
       generalize hA : r.getD i atD = a at *
       generalize hX : atW a = X at *
       generalize hY : atW (r.getD (i - 1) atD) = Y at *
       obtain ⟨o, v⟩ := a
       repeat (first | refine nx ?_ | rw [hq])
       refine zb1 (neg := false) rfl rfl (by rw [hn]; rfl) Tryz.underlying28 rfl (by simp) (by simp [szD]) (fun b hb0 => ?_)
       simp only [z0c] at hb0
       cases b with
       | true => exact absurd (hb0 rfl) hne
       | false =>
         repeat (first | refine nx ?_ | rw [hq2])
         refine z05 rfl (by simp) (fun hc => ?_) (fun hc => ?_)
         · have hS : S = false := by
             rw [Bool.eq_false_iff]
             intro h
             have := ((hS0.1 h).2 i hi2).2 (by omega)
             rw [hY, hA, hX] at this
             simp at hc
             omega
           subst hS
           repeat refine nx ?_
           exact rtU []
         · repeat refine nx ?_
           refine z06 ⟨i + 1, hi2, fun j hj => by
             by_cases e : j = i
             · subst e
               rw [hA, hY, hX]
               simp at hc
               exact ⟨ha, fun _ => by omega⟩
             · exact hu j (by omega)⟩ (by dsimp only; omega) (St.le_of ⟨⟨?_, rfl, rfl, rfl⟩, ?_⟩)
           · rw [hnx]; simp; rfl
           · rw [hnx]; simp; rfl
   · have hwn := hwn (by simpa using ha)
     have hS : S = false := by
       rw [Bool.eq_false_iff]
       intro h
       exact ha ((hS0.1 h).2 i hi2).1
     subst hS
     clear hw ha hb2 hS0
     generalize r.getD i atD = a at *
     obtain ⟨o, v⟩ := a
     repeat (first | refine nx ?_ | rw [hq])
     refine wgF (lv (.int .i64 0)) hn ?_
     repeat refine nx ?_
     exact rtU []
 · obtain rfl : i = r.length := by omega
   have hS : S = true := hS0.2 ⟨⟨by omega, by omega⟩, hu⟩
   subst hS
   rw [List.take_length]
   repeat refine nx ?_
   refine z2O 2 ?_
   exact rt1 []
end Go.Proofs.YtaagjnlkinojcaaGreat

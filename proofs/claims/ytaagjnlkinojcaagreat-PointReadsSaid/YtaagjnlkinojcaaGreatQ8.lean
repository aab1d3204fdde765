/-
  Chapter 15: general names that are right, both sides. The conditions: rows that a machine can hold.
-/
import Derived.Test.YtaagjnlkinojcaaGreatQ6
import Derived.Test.YtaagjnlkinojcaaGreatW27
namespace Go.Proofs.YtaagjnlkinojcaaGreat
set_option linter.unusedSimpArgs false
set_option linter.unusedVariables false
open Go.Sx
set_option maxRecDepth 10000
theorem z6z (t : z0m) (b : List Int) : (∀ z ∈ b, z ∈ z0q t b) ∧ b.length ≤ (z0q t b).length := by
 unfold z0q
 exact ⟨fun z hz => List.mem_append_right _ hz, by simp only [List.length_append]; omega⟩
theorem zam {α : Type} {f : α → List Int} {l : List α} {a : α} (h : a ∈ l) : (∀ z ∈ f a, z ∈ l.flatMap f) ∧ (f a).length ≤ (l.flatMap f).length := by
 refine ⟨fun z hz => List.mem_flatMap.2 ⟨a, h, hz⟩, ?_⟩
 obtain ⟨s, t, rfl⟩ := List.append_of_mem h
 rw [List.flatMap_append, List.flatMap_cons]
 simp only [List.length_append]
 omega
theorem zfe {o : List Int} (h : z0S o = true) : o.length ≤ 1000000 := by
 obtain ⟨_, _, t, ho, _, _, _, _, ht, _⟩ := z40 h
 rw [ho]
 simp
 omega
theorem znL {a : AtT} (h : z21 a = true) (hw : WfB (atW a)) (hl : (atW a).length ≤ 100000) : AtB a := by
 unfold z21 at h
 rw [Bool.and_eq_true] at h
 have h1 := z6z (ofT 16) ((z1O a.1).1 ++ a.2)
 rw [List.length_append] at h1
 change _ ∧ _ ≤ (atW a).length at h1
 exact ⟨zfe h.1, by omega, fun z hz => hw z (h1.1 z (List.mem_append_right _ hz))⟩
theorem zbY {r : List AtT} (h : z11 r = true) (hw : WfB (z3w r)) (hl : (z3w r).length ≤ 100000) : r.length ≤ 1000000 ∧ ∀ a ∈ r, AtB a := by
 obtain ⟨_, h2, h3, _⟩ := zdG h
 refine ⟨by omega, fun a ha => ?_⟩
 have h4 := z6z (ofT 17) (r.flatMap atW)
 have h5 := zam (f := atW) ha
 change _ ∧ _ ≤ (z3w r).length at h4
 exact znL (h3 a ha) (fun z hz => hw z (h4.1 z (h5.1 z hz))) (by omega)
theorem zgX {n : List (List AtT)} (h : z1M n = true) (hw : WfB (z5r n)) (hl : (z5r n).length ≤ 100000) : NmB n := by
 obtain ⟨h1, h2⟩ := zdH h
 refine ⟨by omega, fun r hr => ?_⟩
 have h4 := z6z (ofT 16) (n.flatMap z3w)
 have h5 := zam (f := z3w) hr
 change _ ∧ _ ≤ (z5r n).length at h4
 exact zbY (h2 r hr) (fun z hz => hw z (h4.1 z (h5.1 z hz))) (by omega)
theorem zan {b : List Int} {n : List (List AtT)} (hw : WfB b) (hl : b.length ≤ 100000) (h : z3j b = (n, 0)) : z1M n = true ∧ NmB n := by
 obtain ⟨h1, rfl⟩ := za4 hw h
 exact ⟨h1, zgX h1 hw hl⟩
theorem zff {l : List Int} {p : Nat} (h : ¬ (z1d l p).2.2 = 0) : (z1d l p).1 = [] ∧ (z1d l p).2.1 = p := by
 rw [z5p] at h ⊢
 unfold z0C at h ⊢
 by_cases h2 : (z35 l p).2.2 = 0
 · rw [if_pos h2] at h; exact absurd h2 h
 · rw [if_neg h2]; exact ⟨rfl, rfl⟩
theorem zfg {l : List Int} {p : Nat} (h : ¬ (z35 l p).2.2 = 0) : (z1d l p).2.2 = (z35 l p).2.2 := by
 rw [z5p]
 unfold z0C
 rw [if_neg h]
theorem zgY {l : List Int} {p : Nat} (h : (z35 l p).2.2 = 0) : z1d l p = z35 l p := by
 rw [z5p]
 unfold z0C
 rw [if_pos h]
def z4U (l : List Int) (p : Nat) : List (List AtT) × Nat × Int :=
 let r := z0g l p (ofT 16)
 if r.2.2 = 0 then ((z4e r.1 (r.1.length + 1) 0 []).1, r.2.1, (z4e r.1 (r.1.length + 1) 0 []).2) else ([], p, r.2.2)
theorem zbZ (l : List Int) (p : Nat) (hp : p ≤ l.length) : p ≤ (z4U l p).2.1 ∧ (z4U l p).2.1 ≤ l.length := by
 have h := z2h l p (ofT 16) hp
 unfold z4U
 dsimp only
 split
 · exact h
 · exact ⟨Nat.le_refl _, hp⟩
theorem z6A (l : List Int) (p : Nat) : z2y l p = z0C [] p (z4U l p) := by
 unfold z2y z4U z0C
 dsimp only
 split
 · split
   · rename_i h1 h2; rw [h2]
   · rfl
 · rfl
abbrev nmR (n : List (List AtT)) : List (List Leaf) := n.map fun r => [z1t r]
theorem z5R (n : List (List AtT)) (r : List AtT) : nmR (n ++ [r]) = nmR n ++ [[z1t r]] := List.map_append
set_option maxHeartbeats 16000000 in
theorem zgZ (l : List Int) (p : Nat) (hp : p ≤ l.length) (hl : l.length ≤ 100000) (hw : WfB l) : Ct Tryz.prog 235 [rdN] [z04 l p] (.tup [nmV (z4U l p).1, lv (.int .i64 (z4U l p).2.2)]) [z04 l (z4U l p).2.1] [] := by
 have hho := z1E 16
 have hop := z1V l p (ofT 16) hp (by omega) hw
 have hoe := z2x l p (ofT 16) hp (by omega) hw
 have hmem := z0w l p (ofT 16)
 unfold z4U
 generalize z0g l p (ofT 16) = X at *
 obtain ⟨x, q, e⟩ := X
 dsimp only at *
 by_cases he : e = 0
 · subst he
   have hop := hop rfl
   rw [if_pos rfl]
   have hwx : WfB x := fun y hy => hw y (hmem.2 y hy)
   obtain ⟨R, hR⟩ : ∃ R, z4e x (x.length + 1) 0 [] = R := ⟨_, rfl⟩
   rw [hR]
   refine z00 Tryz.func235 rfl rfl rfl rfl rfl (fun E hn hb => ?_)
   repeat refine nxw ?_
   refine z5A [77] [(3, 0), (3, 77)] ?_
   repeat (first | refine lo1 ?_ | refine nx ?_ | refine z6g [0] hn hop ?_)
   refine z0a (St.le_of (l := [(4, .c (.ptr 77 0)), (6, .c (.own 83 1 0 (nmR []).length))]) (h := [(0, z04 l q), (77, z04 x 0), (83, .row (.recs 1 (nmR [])))]) (by refine ⟨?_, ?_⟩ <;> (repeat' (first | exact trivial | exact rfl | refine ⟨?_, ?_⟩)) <;> first | exact rfl | (simp; done) | skip)) ?_
   refine z0j (ι := {s : Nat × Nat × List (List AtT) // s.2.1 ≤ x.length ∧ x.length - s.2.1 < s.1 ∧ s.2.2.length ≤ 64 ∧ z4e x s.1 s.2.1 s.2.2 = R}) (fun s => St.of [(4, .c (.ptr 77 0)), (6, .c (.own 83 1 0 (nmR s.1.2.2).length))] [(0, z04 l q), (77, z04 x s.1.2.1), (83, .row (.recs 1 (nmR s.1.2.2)))]) (fun s => s.1.1) (fun s => ?_) ⟨(x.length + 1, 0, []), Nat.zero_le _, by dsimp only; omega, by simp, hR⟩
   obtain ⟨⟨f, pp, acc⟩, hpp, hf, h16, hx⟩ := s
   dsimp only at hpp hf h16 hx ⊢
   obtain ⟨f, rfl⟩ : ∃ m, f = m + 1 := ⟨f - 1, by omega⟩
   have hml : (nmR acc).length = acc.length := List.length_map ..
   have hlf := z0R x pp hpp (by omega)
   rw [z4e] at hx
   by_cases hlt : pp < x.length
   · rw [if_pos hlt] at hx
     by_cases h6 : acc.length = 64
     · rw [if_pos h6] at hx
       subst hx
       repeat refine nx ?_
       exact rtU []
     · rw [if_neg h6] at hx
       have hrd := zev x pp hpp (by omega) hwx
       have hle := zce x pp hpp
       by_cases he1 : (z35 x pp).2.2 = 0
       · have hk := zgY he1
         have hbk := @z5s x pp (z1d x pp).2.1 (z1d x pp).1 hwx
         rw [hk] at hx hbk
         generalize z35 x pp = S at *
         obtain ⟨s, q1, e1⟩ := S
         dsimp only at hrd hx hle he1 hbk
         subst he1
         rw [if_pos rfl] at hx
         have hpos : 0 < (z3w s).length := z2a _ _
         have hll := congrArg List.length (hbk rfl).2
         rw [List.length_append, List.length_drop, List.length_drop] at hll
         repeat refine nx ?_
         refine z06 ⟨(f, q1, acc ++ [s]), hle.2, by dsimp only; omega, by simp; omega, hx⟩ (by dsimp only; omega) (St.le_of ⟨⟨rfl, ?_⟩, ⟨rfl, rfl, ?_⟩⟩)
         · dsimp only; rw [z5R]; rfl
         · dsimp only; rw [z5R]; rfl
       · have hk := zfg he1
         have hk2 := (zff (l := x) (p := pp) (by rw [hk]; exact he1)).1
         dsimp only at hx
         rw [hk, if_neg he1] at hx
         generalize z35 x pp = S at *
         obtain ⟨s, q1, e1⟩ := S
         dsimp only at hrd hx hle he1
         subst hx
         repeat refine nx ?_
         exact rtU []
   · rw [if_neg hlt] at hx
     obtain rfl : pp = x.length := by omega
     subst hx
     repeat refine nx ?_
     refine z2O 2 ?_
     exact rt1 []
 · have hoe := hoe he
   rw [if_neg he]
   refine z00 Tryz.func235 rfl rfl rfl rfl rfl (fun E hn hb => ?_)
   repeat refine nxw ?_
   refine z5A [] [(3, 0)] ?_
   repeat (first | refine nx ?_ | refine z6g [0] hn hoe ?_)
   exact rtU []
theorem zfh (l : List Int) (p : Nat) (hp : p ≤ l.length) (hl : l.length ≤ 100000) (hw : WfB l) : Ct Tryz.prog 220 [.c (.ptr 0 0)] [z04 l p] (.tup [nmV (z2y l p).1, lv (.int .i64 (z2y l p).2.2)]) [z04 l (z2y l p).2.1] [] := by
 have h := zgZ l p hp hl hw
 have hle := zbZ l p hp
 have h1 := z1q l p
 rw [z6A]
 generalize z4U l p = R at *
 obtain ⟨x, q, e⟩ := R
 dsimp only at *
 by_cases he : e = 0
 · subst he
   rw [z2z _ _ _ rfl]
   refine z00 Tryz.func220 rfl rfl rfl rfl rfl (fun E hn hb => ?_)
   repeat refine nx ?_
   exact rt1 []
 · rw [z1e _ _ _ he]
   have hbk := z1x l q p hle.1 (by omega)
   refine z00 Tryz.func220 rfl rfl rfl rfl rfl (fun E hn hb => ?_)
   repeat refine nx ?_
   exact rtU []
theorem zc0 (l : List Int) (p : Nat) (hp : p ≤ l.length) : p ≤ (z2y l p).2.1 ∧ (z2y l p).2.1 ≤ l.length := by
 rw [z6A]
 exact z4g _ _ _ _ (zbZ l p hp)
theorem zdL (b : List Int) (hl : b.length ≤ 100000) (hw : WfB b) : Ct Tryz.prog 196 [B8 b] [] (.tup [nmV (z3j b).1, lv (.int .i64 (z3j b).2)]) [] [] := by
 have hcn := z2M b (by omega)
 have h := zfh b 0 (Nat.zero_le _) hl hw
 have hle := zc0 b 0 (Nat.zero_le _)
 unfold z3j
 generalize z2y b 0 = R at *
 obtain ⟨x, q, e⟩ := R
 dsimp only at *
 by_cases he : e = 0
 · subst he
   rw [if_pos rfl]
   have hlf := z0R b q hle.2 (by omega)
   by_cases hlt : q < b.length
   · rw [if_pos hlt]
     refine z00 Tryz.func196 rfl rfl rfl rfl rfl (fun E hn hb => ?_)
     repeat refine nx ?_
     exact rtU []
   · rw [if_neg hlt]
     refine z00 Tryz.func196 rfl rfl rfl rfl rfl (fun E hn hb => ?_)
     repeat refine nx ?_
     exact rt1 []
 · rw [if_neg he]
   refine z00 Tryz.func196 rfl rfl rfl rfl rfl (fun E hn hb => ?_)
   repeat refine nx ?_
   exact rtU []
set_option maxHeartbeats 16000000 in
theorem zcG (l : List Int) (p : Nat) (hp : p ≤ l.length) (hl : l.length ≤ 100000) (hw : WfB l) : Ct Tryz.prog 198 [B8 l, lv (.int .i64 (p : Int))] [] (.tup [nmV (z2y l p).1, lv (.int .i64 ((z2y l p).2.1 : Int)), lv (.int .i64 (z2y l p).2.2)]) [] [] := by
 have hof := z2u 16
 have hop := z2t l p (ofT 16) hp (by omega) hw
 have hmem := z0w l p (ofT 16)
 obtain ⟨Z, hZ⟩ : ∃ Z, z2y l p = Z := ⟨_, rfl⟩
 rw [hZ]
 unfold z2y at hZ
 generalize z0g l p (ofT 16) = X at *
 obtain ⟨x, q, e⟩ := X
 dsimp only at *
 by_cases he : e = 0
 · subst he
   rw [if_pos rfl] at hZ
   have hwx : WfB x := fun y hy => hw y (hmem.2 y hy)
   obtain ⟨R, hR⟩ : ∃ R, z4e x (x.length + 1) 0 [] = R := ⟨_, rfl⟩
   rw [hR] at hZ
   refine z00 Tryz.func198 rfl rfl rfl rfl rfl (fun E hn hb => ?_)
   repeat refine nx ?_
   refine z10 10 900 1 (.recs 1 []) rfl rfl (.inr (.inr ⟨_, rfl⟩)) ?_
   refine z0a (St.le_of (l := [(1, lv (.int .i64 (p : Int))), (7, B8 x), (8, lv (.int .i64 (q : Int))), (10, .c (.own 900 1 0 (nmR []).length)), (11, lv (.int .i64 ((0 : Nat) : Int)))]) (h := [(900, .row (.recs 1 (nmR [])))]) (by refine ⟨?_, ?_⟩ <;> (repeat' (first | exact trivial | exact rfl | refine ⟨?_, ?_⟩)) <;> first | exact rfl | (simp; done) | skip)) ?_
   refine z0j (ι := {s : Nat × Nat × List (List AtT) // s.2.1 ≤ x.length ∧ x.length - s.2.1 < s.1 ∧ s.2.2.length ≤ 64 ∧ z4e x s.1 s.2.1 s.2.2 = R}) (fun s => St.of [(1, lv (.int .i64 (p : Int))), (7, B8 x), (8, lv (.int .i64 (q : Int))), (10, .c (.own 900 1 0 (nmR s.1.2.2).length)), (11, lv (.int .i64 (s.1.2.1 : Int)))] [(900, .row (.recs 1 (nmR s.1.2.2)))]) (fun s => s.1.1) (fun s => ?_) ⟨(x.length + 1, 0, []), Nat.zero_le _, by dsimp only; omega, by simp, hR⟩
   obtain ⟨⟨f, pp, acc⟩, hpp, hf, h16, hx⟩ := s
   dsimp only at hpp hf h16 hx ⊢
   obtain ⟨f, rfl⟩ : ∃ m, f = m + 1 := ⟨f - 1, by omega⟩
   have hml : (nmR acc).length = acc.length := List.length_map ..
   rw [z4e] at hx
   by_cases hlt : pp < x.length
   · rw [if_pos hlt] at hx
     by_cases h6 : acc.length = 64
     · rw [if_pos h6] at hx
       subst hx
       rw [if_neg (by simp)] at hZ
       subst hZ
       repeat refine nx ?_
       exact rtU []
     · rw [if_neg h6] at hx
       have hrd := z70 x pp hpp (by omega) hwx
       have hle := zct x pp hpp
       have hbk := @z5s x pp (z1d x pp).2.1 (z1d x pp).1 hwx
       generalize z1d x pp = S at *
       obtain ⟨s, q1, e1⟩ := S
       dsimp only at hrd hx hle hbk
       by_cases he1 : e1 = 0
       · subst he1
         rw [if_pos rfl] at hx
         have hpos : 0 < (z3w s).length := z2a _ _
         have hll := congrArg List.length (hbk rfl).2
         rw [List.length_append, List.length_drop, List.length_drop] at hll
         repeat refine nx ?_
         refine z06 ⟨(f, q1, acc ++ [s]), hle.2, by dsimp only; omega, by simp; omega, hx⟩ (by dsimp only; omega) (St.le_of ⟨⟨rfl, rfl, rfl, ?_, rfl⟩, ?_⟩)
         · dsimp only; rw [z5R]; rfl
         · dsimp only; rw [z5R]; rfl
       · rw [if_neg he1] at hx
         subst hx
         rw [if_neg he1] at hZ
         subst hZ
         repeat refine nx ?_
         exact rtU []
   · rw [if_neg hlt] at hx
     obtain rfl : pp = x.length := by omega
     subst hx
     rw [if_pos rfl] at hZ
     subst hZ
     repeat refine nx ?_
     refine z2O 4 ?_
     exact rt1 []
 · rw [if_neg he] at hZ
   subst hZ
   refine z00 Tryz.func198 rfl rfl rfl rfl rfl (fun E hn hb => ?_)
   repeat refine nx ?_
   exact rtU []
theorem zfi {l : List Int} {p : Nat} (h : ¬ (z2y l p).2.2 = 0) : (z2y l p).1 = [] ∧ (z2y l p).2.1 = p := by
 rw [z6A] at h ⊢
 unfold z0C at h ⊢
 by_cases h2 : (z4U l p).2.2 = 0
 · rw [if_pos h2] at h; exact absurd h2 h
 · rw [if_neg h2]; exact ⟨rfl, rfl⟩
theorem zbE (b : List Int) (hl : b.length ≤ 100000) (hw : WfB b) : Ct Tryz.prog 172 [B8 b] [] (.tup [nmV (z3j b).1, lv (.int .i64 (z3j b).2)]) [] [] := by
 have h := zcG b 0 (Nat.zero_le _) hl hw
 have hle := zc0 b 0 (Nat.zero_le _)
 have hne := @zfi b 0
 unfold z3j
 generalize z2y b 0 = R at *
 obtain ⟨x, q, e⟩ := R
 dsimp only at *
 by_cases he : e = 0
 · subst he
   rw [if_pos rfl]
   by_cases hlt : q < b.length
   · rw [if_pos hlt]
     refine z00 Tryz.func172 rfl rfl rfl rfl rfl (fun E hn hb => ?_)
     repeat refine nx ?_
     exact rtU []
   · rw [if_neg hlt]
     refine z00 Tryz.func172 rfl rfl rfl rfl rfl (fun E hn hb => ?_)
     repeat refine nx ?_
     exact rt1 []
 · obtain ⟨rfl, rfl⟩ := hne he
   rw [if_neg he]
   refine z00 Tryz.func172 rfl rfl rfl rfl rfl (fun E hn hb => ?_)
   repeat refine nx ?_
   exact rt1 []

theorem zfj (k : Int) : Ct Tryz.prog 195 [lv (.int .i64 k)] [] (lv (.bool (z2U k))) [] [] := by
 refine z00 Tryz.func195 rfl rfl rfl rfl rfl (fun E hn hb => ?_)
 repeat refine nx ?_
 refine rt2 [] (congrArg (fun x => lv (.bool x)) ?_) trivial
 have hb : ∀ x : Int, (k == x) = decide (k = x) := fun x => by rw [Bool.eq_iff_iff]; simp
 unfold z2U
 simp only [hb]
 generalize decide (k = 0) = A
 generalize decide (k = 3) = B
 generalize decide (k = 4) = C
 cases A <;> cases B <;> cases C <;> rfl
theorem zdM (k : Int) : Ct Tryz.prog 171 [lv (.int .i64 k)] [] (lv (.bool (z2U k))) [] [] := by
 refine z00 Tryz.func171 rfl rfl rfl rfl rfl (fun E hn hb => ?_)
 repeat refine nx ?_
 refine rt2 [] (congrArg (fun x => lv (.bool x)) ?_) trivial
 have hb : ∀ x : Int, (k == x) = decide (k = x) := fun x => by rw [Bool.eq_iff_iff]; simp
 unfold z2U
 simp only [hb]
 generalize decide (k = 0) = A
 generalize decide (k = 3) = B
 generalize decide (k = 4) = C
 cases A <;> cases B <;> cases C <;> rfl
theorem zls (x : Int) : Ct Tryz.prog 226 [lv (.int .u8 x)] [] (lv (.bool (decide (127 < x)))) [] [] := by
 refine z00 Tryz.func226 rfl rfl rfl rfl rfl (fun E hn hb => ?_)
 repeat refine nx ?_
 exact rt1 []
def z4V : List Int → Nat → Int
 | [], _ => -1
 | x :: l, n => if 127 < x then n else z4V l (n + 1)
theorem zao : ∀ (l : List Int) (n : Nat), (0 ≤ z4V l n) ↔ ¬ (l.all fun x => decide (x ≤ 127)) = true
 | [], _ => by simp [z4V]
 | x :: l, n => by
   have ih := zao l (n + 1)
   rw [z4V, List.all_cons]
   by_cases h : 127 < x
   · rw [if_pos h, decide_eq_false (by omega)]
     simp
   · rw [if_neg h, decide_eq_true (by omega), Bool.true_and]
     exact ih
theorem zcH {l : List Int} {i : Nat} (h : i < l.length) : l.drop i = l.getD i 0 :: l.drop (i + 1) := by
 rw [List.getD_eq_getElem?_getD, List.getElem?_eq_getElem h]
 exact List.drop_eq_getElem_cons h
set_option maxHeartbeats 4000000 in
theorem zh0 (b : List Int) (hl : b.length ≤ 1000000) : Ct Tryz.prog 237 [B8 b, .c (.fn (.func 226) [] [])] [] (lv (.int .i64 (z4V b 0))) [] [] := by
 refine z00 Tryz.func237 rfl rfl rfl rfl rfl (fun E hn hb => ?_)
 repeat refine nx ?_
 refine z0a (St.le_of (l := [(0, B8 b), (1, .c (.fn (.func 226) [] [])), (7, lv (.int .i64 (b.length : Int))), (8, lv (.int .i64 ((0 : Nat) : Int)))]) (h := []) (by refine ⟨?_, ?_⟩ <;> (repeat' (first | exact trivial | exact rfl | refine ⟨?_, ?_⟩)) <;> first | exact rfl | (simp; done) | skip)) ?_
 refine z0j (ι := {i : Nat // i ≤ b.length ∧ z4V (b.drop i) i = z4V b 0}) (fun i => St.of [(0, B8 b), (1, .c (.fn (.func 226) [] [])), (7, lv (.int .i64 (b.length : Int))), (8, lv (.int .i64 (i.1 : Int)))] []) (fun i => b.length - i.1) (fun i => ?_) ⟨0, Nat.zero_le _, rfl⟩
 obtain ⟨i, hi, hx⟩ := i
 dsimp only
 by_cases hi2 : i < b.length
 · have hq : b.getD (i : Int).toNat 0 = b.getD i 0 := rfl
   rw [zcH hi2, z4V] at hx
   have hc := zls (b.getD i 0)
   generalize hX : b.getD i 0 = X at *
   by_cases h : 127 < X
   · rw [if_pos h] at hx
     rw [decide_eq_true h] at hc
     repeat (first | refine nx ?_ | rw [hq])
     rw [hx]
     exact rt1 []
   · rw [if_neg h] at hx
     rw [decide_eq_false h] at hc
     repeat (first | refine nx ?_ | rw [hq])
     refine z06 ⟨i + 1, hi2, hx⟩ (by dsimp only; omega) (St.le_of ⟨⟨rfl, rfl, rfl, rfl⟩, trivial⟩)
 · obtain rfl : i = b.length := by omega
   rw [List.drop_length, z4V] at hx
   rw [← hx]
   repeat refine nx ?_
   exact rt1 []
theorem zfk (b : List Int) (hl : b.length ≤ 1000000) : Ct Tryz.prog 209 [B8 b] [] (lv (.bool (z30 b))) [] [] := by
 have hi := zh0 b hl
 have hc : Ct Tryz.prog 225 [B8 b, .c (.fn (.func 226) [] [])] [] (lv (.bool (decide (0 ≤ z4V b 0)))) [] [] := by
   refine z00 Tryz.func225 rfl rfl rfl rfl rfl (fun E hn hb => ?_)
   repeat refine nx ?_
   exact rt1 []
 have ha := zao b 0
 unfold z30
 generalize z4V b 0 = I at *
 refine z00 Tryz.func209 rfl rfl rfl rfl rfl (fun E hn hb => ?_)
 repeat refine nx ?_
 refine rt2 [] (congrArg (fun x => lv (.bool x)) ?_) trivial
 by_cases h0 : b.length = 0
 · simp [h0]
 · have : 0 < b.length := by omega
   by_cases hI : 0 ≤ I
   · have := ha.1 hI
     simp only [Bool.not_eq_true] at this
     rw [this]
     simp [hI]
   · have h2 : (b.all fun x => decide (x ≤ 127)) = true := by
       exact Decidable.byContradiction fun h => hI (ha.2 h)
     rw [h2, decide_eq_true this, decide_eq_true (by omega : (0 : Int) < b.length), decide_eq_false hI]
     rfl
theorem zcI (b : List Int) (hl : b.length ≤ 100000) (hw : WfB b) : Ct Tryz.prog 211 [B8 b] [] (lv (.bool (z3Q b))) [] [] := by
 have hcn := z2M b (by omega)
 have hwh := z9O b 0 (Nat.zero_le _) hl hw
 unfold z3Q
 generalize z12 b 0 = W at *
 obtain ⟨rs, e⟩ := W
 dsimp only at *
 by_cases he : e = 0
 · subst he
   rw [if_pos rfl] at hwh
   refine z00 Tryz.func211 rfl rfl rfl rfl rfl (fun E hn hb => ?_)
   repeat refine nx ?_
   refine rt2 [] (congrArg (fun x => lv (.bool x)) ?_) trivial
   simp
 · rw [if_neg he] at hwh
   rw [decide_eq_false he]
   refine z00 Tryz.func211 rfl rfl rfl rfl rfl (fun E hn hb => ?_)
   repeat refine nx ?_
   refine rt2 [] (congrArg (fun x => lv (.bool x)) ?_) trivial
   simp [he]
theorem zcJ {k : Int} (b : List Int) (h0 : k ≠ 0) (h1 : k ≠ 1) (h2 : k ≠ 2) (h3 : k ≠ 3) (h5 : k ≠ 5) (h6 : k ≠ 6) (h7 : k ≠ 7) (h8 : k ≠ 8) : z4p k b = false := by
 unfold z4p
 rw [if_neg (by omega), if_neg h7, if_neg h8, if_neg (by omega)]
set_option maxHeartbeats 4000000 in
theorem zac (k : Int) (b : List Int) (hl : b.length ≤ 100000) (hw : WfB b) : Ct Tryz.prog 180 [lv (.int .i64 k), B8 b] [] (lv (.bool (z4p k b))) [] [] := by
 have hp := zfk b (by omega)
 have ho := z9E b (by omega) hw
 have hh := zcI b hl hw
 by_cases h1 : k = 1
 · subst h1
   show Ct _ _ _ _ (lv (.bool (z30 b))) _ _
   refine z00 Tryz.func180 rfl rfl rfl rfl rfl (fun E hn hb => ?_)
   repeat refine nx ?_
   exact rt1 []
 by_cases h2 : k = 2
 · subst h2
   show Ct _ _ _ _ (lv (.bool (z30 b))) _ _
   refine z00 Tryz.func180 rfl rfl rfl rfl rfl (fun E hn hb => ?_)
   repeat refine nx ?_
   exact rt1 []
 by_cases h6 : k = 6
 · subst h6
   show Ct _ _ _ _ (lv (.bool (z30 b))) _ _
   refine z00 Tryz.func180 rfl rfl rfl rfl rfl (fun E hn hb => ?_)
   repeat refine nx ?_
   exact rt1 []
 by_cases h7 : k = 7
 · subst h7
   show Ct _ _ _ _ (lv (.bool (decide (b.length = 4) || decide (b.length = 16)))) _ _
   refine z00 Tryz.func180 rfl rfl rfl rfl rfl (fun E hn hb => ?_)
   repeat refine nx ?_
   refine rt2 [] (congrArg (fun x => lv (.bool x)) ?_) trivial
   by_cases h4 : b.length = 4
   · simp [h4]
   · by_cases h16 : b.length = 16
     · simp [h16]
     · rw [show ((b.length : Int) == 4) = false by rw [beq_eq_false_iff_ne]; omega, show ((b.length : Int) == 16) = false by rw [beq_eq_false_iff_ne]; omega]
       simp [h4, h16]
 by_cases h8 : k = 8
 · subst h8
   show Ct _ _ _ _ (lv (.bool (decide ((z2k b).2 = 0)))) _ _
   refine z00 Tryz.func180 rfl rfl rfl rfl rfl (fun E hn hb => ?_)
   repeat refine nx ?_
   exact rt1 []
 by_cases h0 : k = 0
 · subst h0
   show Ct _ _ _ _ (lv (.bool (z3Q b))) _ _
   refine z00 Tryz.func180 rfl rfl rfl rfl rfl (fun E hn hb => ?_)
   repeat refine nx ?_
   exact rt1 []
 by_cases h3 : k = 3
 · subst h3
   show Ct _ _ _ _ (lv (.bool (z3Q b))) _ _
   refine z00 Tryz.func180 rfl rfl rfl rfl rfl (fun E hn hb => ?_)
   repeat refine nx ?_
   exact rt1 []
 by_cases h5 : k = 5
 · subst h5
   show Ct _ _ _ _ (lv (.bool (z3Q b))) _ _
   refine z00 Tryz.func180 rfl rfl rfl rfl rfl (fun E hn hb => ?_)
   repeat refine nx ?_
   exact rt1 []
 rw [zcJ b h0 h1 h2 h3 h5 h6 h7 h8]
 refine z00 Tryz.func180 rfl rfl rfl rfl rfl (fun E hn hb => ?_)
 repeat refine nx ?_
 exact rt1 []
abbrev gnL (g : GnT) : List Leaf := [.v (.int .i64 g.1), .ints .u8 g.2.1, nmL g.2.2]
abbrev gnA (g : GnT) : Av := .agg [.lf (.v (.int .i64 g.1)), .lf (.ints .u8 g.2.1), .lf (nmL g.2.2)]
structure GnB (g : GnT) : Prop where
 l : g.2.1.length ≤ 100000
 w : WfB g.2.1
 n : NmB g.2.2
theorem z6B (g : GnT) (h : GnB g) : Ct Tryz.prog 137 [gnA g] [] (lv (.bool (z1s g))) [] [] := by
 obtain ⟨k, b, n⟩ := g
 obtain ⟨hl, hw, hn1⟩ := h
 dsimp only at hl hw hn1
 have hr := z8I n hn1
 have hc := zac k b hl hw
 have hml : (nmR n).length = n.length := List.length_map ..
 unfold z1s
 dsimp only
 by_cases hk : k = 4
 · subst hk
   rw [if_pos rfl]
   generalize z1M n = N at *
   refine z00 Tryz.func137 rfl rfl rfl rfl rfl (fun E hn hb => ?_)
   repeat refine nx ?_
   refine rt2 [] (congrArg (fun x => lv (.bool x)) ?_) trivial
   by_cases h0 : b.length = 0
   · simp [h0]
   · rw [show ((b.length : Int) == 0) = false by rw [beq_eq_false_iff_ne]; omega]
     simp [h0]
 · rw [if_neg hk]
   generalize z4p k b = C at *
   refine z00 Tryz.func137 rfl rfl rfl rfl rfl (fun E hn hb => ?_)
   repeat refine nx ?_
   refine rt2 [] (congrArg (fun x => lv (.bool x)) ?_) trivial
   rw [hml]
   by_cases h0 : n.length = 0
   · simp [h0]
   · rw [show ((n.length : Int) == 0) = false by rw [beq_eq_false_iff_ne]; omega]
     simp [h0]
end Go.Proofs.YtaagjnlkinojcaaGreat

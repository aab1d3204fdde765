/-
  Chapter 14: the next name, both sides. The conditions: rows of at most a hundred thousand bytes.
-/
import Derived.Test.YtaagjnlkinojcaaGreatQ3
import Derived.Test.YtaagjnlkinojcaaGreatC13
import Derived.Test.YtaagjnlkinojcaaGreatW27
import Derived.Test.YtaagjnlkinojcaaGreatC8
namespace Go.Proofs.YtaagjnlkinojcaaGreat
set_option linter.unusedSimpArgs false
set_option linter.unusedVariables false
open Go.Sx
set_option maxRecDepth 10000
def NmB (n : List (List AtT)) : Prop := n.length ≤ 16000000 ∧ ∀ r ∈ n, r.length ≤ 16000000 ∧ ∀ a ∈ r, AtB a
theorem z1s {α : Type} {l : List α} {i : Nat} {d : α} (h : i < l.length) : l.getD i d ∈ l := by
 rw [List.getD_eq_getElem?_getD, List.getElem?_eq_getElem h]
 exact List.getElem_mem h
theorem z8o {α : Type} {l : List α} {p : α → Bool} {d : α} (h : ∀ j, j < l.length → p (l.getD j d) = true) : l.all p = true := by
 rw [List.all_eq_true]
 intro x hx
 obtain ⟨j, hj, rfl⟩ := List.mem_iff_getElem.1 hx
 have := h j hj
 rwa [List.getD_eq_getElem?_getD, List.getElem?_eq_getElem hj] at this
theorem z6L {α : Type} {l : List α} {p : α → Bool} {d : α} {j : Nat} (hj : j < l.length) (h : ¬ p (l.getD j d) = true) : l.all p = false := by
 rw [Bool.eq_false_iff]
 intro h2
 exact h (List.all_eq_true.1 h2 _ (z1s hj))
set_option maxHeartbeats 8000000 in
theorem z4E (n : List (List AtT)) (hb1 : NmB n) : Ct Tryz.prog 132 [nmV n] [] (lv (.bool (z0F n))) [] [] := by
 have hml : (n.map fun r => [z3h r]).length = n.length := List.length_map ..
 have hl := hb1.1
 unfold z0F
 by_cases h64 : 64 < n.length
 · rw [decide_eq_false (by omega), Bool.false_and]
   refine z00 Tryz.func132 rfl rfl rfl rfl rfl (fun E hn hb => ?_)
   repeat refine nx ?_
   exact rt1 []
 rw [decide_eq_true (by omega), Bool.true_and]
 refine z00 Tryz.func132 rfl rfl rfl rfl rfl (fun E hn hb => ?_)
 repeat refine nx ?_
 rw [hml]
 refine z0d (St.le_of (l := [(10, nmV n), (11, lv (.int .i64 (n.length : Int))), (12, lv (.int .i64 ((0 : Nat) : Int)))]) (h := []) (by refine ⟨?_, ?_⟩ <;> (repeat' (first | exact trivial | exact rfl | refine ⟨?_, ?_⟩)) <;> first | exact rfl | (simp; done) | skip)) ?_
 refine z0l (ι := {i : Nat // i ≤ n.length ∧ ∀ j, j < i → z0B (n.getD j []) = true}) (fun i => St.of [(10, nmV n), (11, lv (.int .i64 (n.length : Int))), (12, lv (.int .i64 (i.1 : Int)))] []) (fun i => n.length - i.1) (fun i => ?_) ⟨0, Nat.zero_le _, fun j hj => by omega⟩
 obtain ⟨i, hi, hu⟩ := i
 dsimp only
 by_cases hi2 : i < n.length
 · have hq : n.getD (i : Int).toNat [] = n.getD i [] := rfl
   have hbr := hb1.2 _ (z1s (d := []) hi2)
   have hw := z7n _ hbr.2 hbr.1
   by_cases ha : z0B (n.getD i []) = true
   · rw [ha, if_pos rfl] at hw
     generalize hA : n.getD i [] = r at *
     repeat (first | refine nx ?_ | rw [hq])
     refine z0a ⟨i + 1, hi2, fun j hj => by
       by_cases e : j = i
       · subst e; rw [hA]; exact ha
       · exact hu j (by omega)⟩ (by dsimp only; omega) (St.le_of ⟨⟨rfl, rfl, rfl⟩, trivial⟩)
   · rw [z6L hi2 ha]
     rw [if_neg ha, Bool.eq_false_iff.2 ha] at hw
     generalize hA : n.getD i [] = r at *
     repeat (first | refine nx ?_ | rw [hq])
     exact rt1 []
 · obtain rfl : i = n.length := by omega
   rw [z8o hu]
   repeat refine nx ?_
   exact rt1 []
set_option maxHeartbeats 8000000 in
theorem zaC (r : List AtT) (hb1 : ∀ a ∈ r, AtB a) (hl : r.length ≤ 16000000) : Ct Tryz.prog 139 [z2Q r] [] (lv (.bool (z0B r))) [] [] := by
 have hml : (r.map atL).length = r.length := List.length_map ..
 by_cases h1 : r.length = 0
 · obtain rfl := List.eq_nil_of_length_eq_zero h1
   refine z00 Tryz.func139 rfl rfl rfl rfl rfl (fun E hn hb => ?_)
   repeat refine nx ?_
   exact rt1 []
 by_cases h16 : 16 < r.length
 · have hS : z0B r = false := by
     rw [Bool.eq_false_iff]
     intro h
     have := ((z4B r).1 h).1
     omega
   rw [hS]
   refine z00 Tryz.func139 rfl rfl rfl rfl rfl (fun E hn hb => ?_)
   repeat refine nx ?_
   exact rt1 []
 refine z00 Tryz.func139 rfl rfl rfl rfl rfl (fun E hn hb => ?_)
 repeat refine nx ?_
 have hS0 := z4B r
 generalize z0B r = S at *
 refine W_up 3 (x := B8 []) (.inr ⟨rfl, .inl ⟨_, rfl⟩⟩) ?_
 refine z0d (St.le_of (l := [(0, z2Q r), (3, B8 []), (4, lv (.int .i64 ((0 : Nat) : Int)))]) (h := []) (by refine ⟨?_, ?_⟩ <;> (repeat' (first | exact trivial | exact rfl | refine ⟨?_, ?_⟩)) <;> first | exact rfl | (simp; done) | skip)) ?_
 refine z0l (ι := {i : Nat // i ≤ r.length ∧ zcx r i}) (fun i => St.of [(0, z2Q r), (3, B8 (if i.1 = 0 then [] else atW (r.getD (i.1 - 1) atD))), (4, lv (.int .i64 (i.1 : Int)))] []) (fun i => r.length - i.1) (fun i => ?_) ⟨0, Nat.zero_le _, fun j hj => by omega⟩
 obtain ⟨i, hi, hu⟩ := i
 dsimp only
 by_cases hi2 : i < r.length
 · have hq : r.getD (i : Int).toNat default = r.getD i atD := rfl
   have hb2 := z74 hb1 hi2
   have hw := ze5 _ hb2
   have hwn := ze6 _ hb2
   by_cases ha : z1h (r.getD i atD) = true
   · have hw := hw ha
     clear hwn
     by_cases h0 : i = 0
     · subst h0
       generalize hA : r.getD 0 atD = a at *
       rw [if_pos rfl]
       generalize hX : atW a = X at *
       obtain ⟨o, v⟩ := a
       repeat (first | refine nx ?_ | rw [hq])
       refine wgF (lv (.int .i64 0)) hn ?_
       repeat refine nx ?_
       refine z0a ⟨1, hi2, fun j hj => by obtain rfl : j = 0 := by omega
                                          rw [hA]; exact ⟨ha, fun h => absurd h (by omega)⟩⟩ (by dsimp only; omega) (St.le_of ⟨⟨rfl, ?_, rfl⟩, trivial⟩)
       show B8 X = B8 (if 1 = 0 then [] else atW (r.getD 0 atD))
       rw [if_neg (by decide), hA, hX]
     · have hcm := z8z (atW (r.getD (i - 1) atD)) (atW (r.getD i atD)) (by have := z4V (hu (i - 1) (by omega)).1; have := (z74 hb1 (show i - 1 < r.length by omega)).l; omega) (by have := z4V ha; have := hb2.l; omega)
       rw [if_neg h0]
       generalize hA : r.getD i atD = a at *
       generalize hX : atW a = X at *
       generalize hY : atW (r.getD (i - 1) atD) = Y at *
       obtain ⟨o, v⟩ := a
       repeat (first | refine nx ?_ | rw [hq])
       refine z04 rfl (by simp) (fun hc => ?_) (fun hc => ?_)
       · have hS : S = false := by
           rw [Bool.eq_false_iff]
           intro h
           have := ((hS0.1 h).2 i hi2).2 (by omega)
           rw [hY, hA, hX] at this
           simp at hc
           omega
         subst hS
         repeat refine nx ?_
         exact rt1 []
       · repeat refine nx ?_
         refine z0a ⟨i + 1, hi2, fun j hj => by
           by_cases e : j = i
           · subst e
             rw [hA, hY, hX]
             simp at hc
             exact ⟨ha, fun _ => by omega⟩
           · exact hu j (by omega)⟩ (by dsimp only; omega) (St.le_of ⟨⟨rfl, ?_, rfl⟩, trivial⟩)
         show B8 X = B8 (if i + 1 = 0 then [] else atW (r.getD (i + 1 - 1) atD))
         rw [if_neg (by omega), Nat.add_sub_cancel, hA, hX]
   · have hwn := hwn (by simpa using ha)
     have hS : S = false := by
       rw [Bool.eq_false_iff]
       intro h
       exact ha ((hS0.1 h).2 i hi2).1
     subst hS
     clear hw ha hb2 hS0
     generalize r.getD i atD = a at *
     obtain ⟨o, v⟩ := a
     repeat (first | refine nx ?_ | rw [hq])
     refine wgF (lv (.int .i64 0)) hn ?_
     repeat refine nx ?_
     exact rt1 []
 · obtain rfl : i = r.length := by omega
   have hS : S = true := hS0.2 ⟨⟨by omega, by omega⟩, hu⟩
   subst hS
   repeat refine nx ?_
   exact rt1 []
set_option maxHeartbeats 8000000 in
theorem z7u (n : List (List AtT)) (hb1 : NmB n) : Ct Tryz.prog 75 [nmV n] [] (lv (.bool (z0F n))) [] [] := by
 have hml : (n.map fun r => [z3h r]).length = n.length := List.length_map ..
 have hl := hb1.1
 unfold z0F
 refine z00 Tryz.func75 rfl rfl rfl rfl rfl (fun E hn hb => ?_)
 repeat refine nx ?_
 refine z0d (St.le_of (l := [(0, nmV n), (3, lv (.int .i64 ((0 : Nat) : Int)))]) (h := []) (by refine ⟨?_, ?_⟩ <;> (repeat' (first | exact trivial | exact rfl | refine ⟨?_, ?_⟩)) <;> first | exact rfl | (simp; done) | skip)) ?_
 refine z0l (ι := {i : Nat // i ≤ n.length ∧ ∀ j, j < i → z0B (n.getD j []) = true}) (fun i => St.of [(0, nmV n), (3, lv (.int .i64 (i.1 : Int)))] []) (fun i => n.length - i.1) (fun i => ?_) ⟨0, Nat.zero_le _, fun j hj => by omega⟩
 obtain ⟨i, hi, hu⟩ := i
 dsimp only
 by_cases hi2 : i < n.length
 · have hq : n.getD (i : Int).toNat [] = n.getD i [] := rfl
   have hbr := hb1.2 _ (z1s (d := []) hi2)
   have hw := zaC _ hbr.2 hbr.1
   by_cases ha : z0B (n.getD i []) = true
   · rw [ha] at hw
     generalize hA : n.getD i [] = r at *
     repeat (first | refine nx ?_ | rw [hq])
     refine z0a ⟨i + 1, hi2, fun j hj => by
       by_cases e : j = i
       · subst e; rw [hA]; exact ha
       · exact hu j (by omega)⟩ (by dsimp only; omega) (St.le_of ⟨⟨rfl, rfl⟩, trivial⟩)
   · rw [z6L hi2 ha, Bool.and_false]
     rw [Bool.eq_false_iff.2 ha] at hw
     generalize hA : n.getD i [] = r at *
     repeat (first | refine nx ?_ | rw [hq])
     exact rt1 []
 · obtain rfl : i = n.length := by omega
   rw [z8o hu, Bool.and_true]
   repeat refine nx ?_
   refine rt2 [] (congrArg (fun x => lv (.bool x)) ?_) trivial
   rw [hml, Bool.eq_iff_iff]
   simp
   omega

theorem zaD : ∀ a b : List Int, -1 ≤ z0v a b ∧ z0v a b ≤ 1
 | [], [] => by simp [z0v]
 | [], _ :: _ => by simp [z0v]
 | _ :: _, [] => by simp [z0v]
 | x :: a, y :: b => by
   have := zaD a b
   rw [z0v]
   split
   · omega
   · split
     · omega
     · exact this
theorem zlR {x : List Int} {a : AtT} {p q : Nat} (hw : WfB x) (hl : x.length ≤ 12000000) (hp : p ≤ x.length) (h : z2n x p = (a, q, 0)) : z1h a = true ∧ AtB a ∧ x.drop p = atW a ++ x.drop q ∧ q ≤ x.length ∧ p < q := by
 obtain ⟨h1, h2⟩ := z9F hw h
 have hq := (zbI x p hp).2
 rw [h] at hq
 have hpos : 0 < (atW a).length := z1L _ _
 have hlen := congrArg List.length h2
 rw [List.length_append, List.length_drop, List.length_drop] at hlen
 have hsub : ∀ z ∈ a.2, z ∈ atW a := fun z hz => by
   unfold atW z0i
   simp [hz]
 have hle : a.2.length ≤ (atW a).length := by
   unfold atW z0i
   simp only [List.length_append]
   omega
 have hr : z0N a.1 = true := by
   unfold z1h at h1
   rw [Bool.and_eq_true] at h1
   exact h1.1
 refine ⟨h1, ⟨?_, by omega, fun z hz => hw z ?_⟩, h2, hq, by dsimp only at hq; omega⟩
 · obtain ⟨_, _, t, ho, _, _, _, _, ht, _⟩ := z3c hr
   rw [ho]
   simp
   omega
 · have : z ∈ x.drop p := by rw [h2]; exact List.mem_append_left _ (hsub z hz)
   exact List.mem_of_mem_drop this
theorem zfF {x : List Int} {p : Nat} (h : ¬ (z2n x p).2.2 = 0) : (z2n x p).1 = ([], []) := by
 unfold z2n at h ⊢
 dsimp only at h ⊢
 split at h
 · rename_i h1
   rw [if_pos h1]
   dsimp only at h ⊢
   unfold z6i at h ⊢
   dsimp only at h ⊢
   split at h
   · rename_i h2
     rw [if_pos h2]
     split at h
     · rename_i h3
       rw [if_pos h3]
       split at h
       · rename_i h4
         rw [if_pos h4]
       · exact absurd rfl h
     · rename_i h3
       rw [if_neg h3]
   · rename_i h2
     rw [if_neg h2]
 · rename_i h1
   rw [if_neg h1]
abbrev z5l (acc : List AtT) : List Int := if acc = [] then [] else atW (acc.getLastD ([], []))
def z31 (l : List Int) (p : Nat) : List AtT × Nat × Int :=
 let r := z0y l p (ofT 17)
 if r.2.2 = 0 then ((z4a r.1 (r.1.length + 1) 0 []).1, r.2.1, (z4a r.1 (r.1.length + 1) 0 []).2) else ([], p, r.2.2)
theorem zh4 (l : List Int) (p : Nat) (hp : p ≤ l.length) : p ≤ (z31 l p).2.1 ∧ (z31 l p).2.1 ≤ l.length := by
 have h := z49 l p (ofT 17) hp
 unfold z31
 dsimp only
 split
 · exact h
 · exact ⟨Nat.le_refl _, hp⟩
theorem z6M (l : List Int) (p : Nat) : z2K l p = z0S [] p (z31 l p) := by
 unfold z2K z31 z0S
 dsimp only
 split
 · split
   · rename_i h1 h2; rw [h2]
   · rfl
 · rfl
set_option maxHeartbeats 16000000 in
theorem zlS (l : List Int) (p : Nat) (hp : p ≤ l.length) (hl : l.length ≤ 12000000) (hw : WfB l) : Ct Tryz.prog 193 [rdN] [z06 l p] (.tup [z2Q (z31 l p).1, lv (.int .i64 (z31 l p).2.2)]) [z06 l (z31 l p).2.1] [] := by
 have hho := z1I 17
 have hop := z3w l p (ofT 17) hp (by omega) hw
 have hoe := z5X l p (ofT 17) hp (by omega) hw
 have hmem := z2w l p (ofT 17)
 unfold z31
 generalize z0y l p (ofT 17) = X at *
 obtain ⟨x, q, e⟩ := X
 dsimp only at *
 by_cases he : e = 0
 · subst he
   have hop := hop rfl
   rw [if_pos rfl]
   have hwx : WfB x := fun y hy => hw y (hmem.2 y hy)
   obtain ⟨R, hR⟩ : ∃ R, z4a x (x.length + 1) 0 [] = R := ⟨_, rfl⟩
   rw [hR]
   refine z00 Tryz.func193 rfl rfl rfl rfl rfl (fun E hn hb => ?_)
   repeat refine nxw ?_
   refine z6f [79] [(3, 0), (3, 79)] ?_
   repeat (first | refine nx ?_ | refine z6e [0] hn hop ?_)
   refine z1a 6 900 2 (.recs 2 []) rfl rfl (.inr (.inr ⟨_, rfl⟩)) ?_
   refine W_up 7 (x := B8 []) (.inr ⟨rfl, .inl ⟨_, rfl⟩⟩) ?_
   refine z0d (St.le_of (l := [(4, .c (.ptr 79 0)), (6, .c (.own 900 2 0 (([] : List AtT).map atL).length)), (7, B8 [])]) (h := [(0, z06 l q), (79, z06 x 0), (900, .row (.recs 2 (([] : List AtT).map atL)))]) (by refine ⟨?_, ?_⟩ <;> (repeat' (first | exact trivial | exact rfl | refine ⟨?_, ?_⟩)) <;> first | exact rfl | (simp; done) | skip)) ?_
   refine z0l (ι := {s : Nat × Nat × List AtT // s.2.1 ≤ x.length ∧ x.length - s.2.1 < s.1 ∧ s.2.2.length ≤ 16 ∧ (∀ a ∈ s.2.2, z1h a = true ∧ AtB a) ∧ z4a x s.1 s.2.1 s.2.2 = R}) (fun s => St.of [(4, .c (.ptr 79 0)), (6, .c (.own 900 2 0 (s.1.2.2.map atL).length)), (7, B8 (z5l s.1.2.2))] [(0, z06 l q), (79, z06 x s.1.2.1), (900, .row (.recs 2 (s.1.2.2.map atL)))]) (fun s => s.1.1) (fun s => ?_) ⟨(x.length + 1, 0, []), Nat.zero_le _, by dsimp only; omega, by simp, by simp, hR⟩
   obtain ⟨⟨f, pp, acc⟩, hpp, hf, h16, hok, hx⟩ := s
   dsimp only at hpp hf h16 hok hx ⊢
   obtain ⟨f, rfl⟩ : ∃ m, f = m + 1 := ⟨f - 1, by omega⟩
   have hml : (acc.map atL).length = acc.length := List.length_map ..
   have hlf := z1t x pp hpp (by omega)
   rw [z4a] at hx
   by_cases hlt : pp < x.length
   · rw [if_pos hlt] at hx
     by_cases h6 : acc.length = 16
     · rw [if_pos h6] at hx
       subst hx
       repeat refine nx ?_
       exact rtU []
     · rw [if_neg h6] at hx
       have hat := zhf x pp hpp (by omega) hwx
       have hB := @zlR x (z2n x pp).1 pp (z2n x pp).2.1 hwx (by omega) hpp
       have hne := @zfF x pp
       generalize z2n x pp = A at *
       obtain ⟨a, q1, e1⟩ := A
       dsimp only at hat hx hB hne
       by_cases he1 : e1 = 0
       · subst he1
         rw [if_pos rfl] at hx
         obtain ⟨b1, b2, b3, b4, b5⟩ := hB rfl
         have hwh := zaH a b2 b1
         by_cases h0 : acc = []
         · subst h0
           rw [if_neg (by simp), if_neg (by simp), List.nil_append] at hx
           obtain ⟨o, v⟩ := a
           generalize hXX : atW (o, v) = XX at *
           repeat refine nx ?_
           refine z0a ⟨(f, q1, [(o, v)]), b4, by dsimp only; omega, by simp, by simp [b1, b2], hx⟩ (by dsimp only; omega) (St.le_of ⟨⟨rfl, rfl, ?_⟩, ⟨rfl, rfl, rfl⟩⟩)
           show B8 XX = B8 (atW (o, v))
           rw [hXX]
         · have hla : z5l acc = atW (acc.getLastD ([], [])) := if_neg h0
           have hlm : acc.getLastD ([], []) ∈ acc := by
             rw [List.getLastD_eq_getLast?, List.getLast?_eq_some_getLast h0]
             exact List.getLast_mem h0
           have hcm := z5o (z5l acc) (atW a) (by rw [hla]; have := z4V (hok _ hlm).1; have := (hok _ hlm).2.l; omega) (by have := z4V b1; have := b2.l; omega)
           have hrg := zaD (z5l acc) (atW a)
           have hpos : 0 < acc.length := List.length_pos_iff.2 h0
           rw [← hla] at hx
           have hnl : z5l (acc ++ [a]) = atW a := by
             unfold z5l
             rw [if_neg (by simp)]
             simp
           obtain ⟨o, v⟩ := a
           generalize hXX : atW (o, v) = XX at *
           generalize z5l acc = Y at *
           generalize z0v Y XX = C at *
           by_cases hc0 : C = 0
           · subst hc0
             rw [if_pos ⟨h0, rfl⟩] at hx
             subst hx
             repeat refine nx ?_
             exact rtU []
           · by_cases hc1 : 0 < C
             · obtain rfl : C = 1 := by omega
               rw [if_neg (by simp), if_pos ⟨h0, by decide⟩] at hx
               subst hx
               repeat refine nx ?_
               exact rtU []
             · obtain rfl : C = -1 := by omega
               rw [if_neg (by simp), if_neg (by simp)] at hx
               repeat refine nx ?_
               refine z0a ⟨(f, q1, acc ++ [(o, v)]), b4, by dsimp only; omega, by simp; omega, fun a ha => ?_, hx⟩ (by dsimp only; omega) (St.le_of ⟨⟨rfl, ?_, ?_⟩, ⟨rfl, rfl, ?_⟩⟩)
               · rcases List.mem_append.1 ha with h | h
                 · exact hok a h
                 · rw [List.mem_singleton.1 h]; exact ⟨b1, b2⟩
               · dsimp only; rw [List.map_append]; rfl
               · show B8 XX = B8 (z5l (acc ++ [(o, v)]))
                 rw [hnl]
               · dsimp only; rw [List.map_append]; rfl
       · rw [if_neg he1] at hx
         obtain rfl := hne he1
         subst hx
         repeat refine nx ?_
         exact rtU []
   · rw [if_neg hlt] at hx
     obtain rfl : pp = x.length := by omega
     by_cases h0 : acc = []
     · subst h0
       rw [if_pos rfl] at hx
       subst hx
       repeat refine nx ?_
       exact rtU []
     · rw [if_neg h0] at hx
       subst hx
       have hpos : 0 < acc.length := List.length_pos_iff.2 h0
       repeat refine nx ?_
       rw [hml]
       refine z2C 2 ?_
       exact rt1 []
 · have hoe := hoe he
   rw [if_neg he]
   refine z00 Tryz.func193 rfl rfl rfl rfl rfl (fun E hn hb => ?_)
   repeat refine nxw ?_
   refine z6f [] [(3, 0)] ?_
   repeat (first | refine nx ?_ | refine z6e [0] hn hoe ?_)
   exact rtU []

theorem z6N (t : z0q) (b : List Int) : (∀ z ∈ b, z ∈ z0i t b) ∧ b.length ≤ (z0i t b).length := by
 unfold z0i
 exact ⟨fun z hz => List.mem_append_right _ hz, by simp only [List.length_append]; omega⟩
theorem zaE {α : Type} {f : α → List Int} {l : List α} {a : α} (h : a ∈ l) : (∀ z ∈ f a, z ∈ l.flatMap f) ∧ (f a).length ≤ (l.flatMap f).length := by
 refine ⟨fun z hz => List.mem_flatMap.2 ⟨a, h, hz⟩, ?_⟩
 obtain ⟨s, t, rfl⟩ := List.append_of_mem h
 rw [List.flatMap_append, List.flatMap_cons]
 simp only [List.length_append]
 omega
theorem zfG {o : List Int} (h : z0N o = true) : o.length ≤ 16000000 := by
 obtain ⟨_, _, t, ho, _, _, _, _, ht, _⟩ := z3c h
 rw [ho]
 simp
 omega
theorem znC {a : AtT} (h : z1h a = true) (hw : WfB (atW a)) (hl : (atW a).length ≤ 12000000) : AtB a := by
 unfold z1h at h
 rw [Bool.and_eq_true] at h
 have h1 := z6N (ofT 16) ((z16 a.1).1 ++ a.2)
 rw [List.length_append] at h1
 change _ ∧ _ ≤ (atW a).length at h1
 exact ⟨zfG h.1, by omega, fun z hz => hw z (h1.1 z (List.mem_append_right _ hz))⟩
theorem zh5 {r : List AtT} (h : z0B r = true) (hw : WfB (z0m r)) (hl : (z0m r).length ≤ 12000000) : r.length ≤ 16000000 ∧ ∀ a ∈ r, AtB a := by
 obtain ⟨_, h2, h3, _⟩ := z82 h
 refine ⟨by omega, fun a ha => ?_⟩
 have h4 := z6N (ofT 17) (r.flatMap atW)
 have h5 := zaE (f := atW) ha
 change _ ∧ _ ≤ (z0m r).length at h4
 exact znC (h3 a ha) (fun z hz => hw z (h4.1 z (h5.1 z hz))) (by omega)
theorem zh6 {n : List (List AtT)} (h : z0F n = true) (hw : WfB (z1u n)) (hl : (z1u n).length ≤ 12000000) : NmB n := by
 obtain ⟨h1, h2⟩ := z83 h
 refine ⟨by omega, fun r hr => ?_⟩
 have h4 := z6N (ofT 16) (n.flatMap z0m)
 have h5 := zaE (f := z0m) hr
 change _ ∧ _ ≤ (z1u n).length at h4
 exact zh5 (h2 r hr) (fun z hz => hw z (h4.1 z (h5.1 z hz))) (by omega)
theorem zlT {b : List Int} {n : List (List AtT)} (hw : WfB b) (hl : b.length ≤ 12000000) (h : z4x b = (n, 0)) : z0F n = true ∧ NmB n := by
 obtain ⟨h1, rfl⟩ := z9u hw h
 exact ⟨h1, zh6 h1 hw hl⟩
theorem zfH {l : List Int} {p : Nat} (h : ¬ (z2K l p).2.2 = 0) : (z2K l p).1 = [] ∧ (z2K l p).2.1 = p := by
 rw [z6M] at h ⊢
 unfold z0S at h ⊢
 by_cases h2 : (z31 l p).2.2 = 0
 · rw [if_pos h2] at h; exact absurd h2 h
 · rw [if_neg h2]; exact ⟨rfl, rfl⟩
theorem zfI {l : List Int} {p : Nat} (h : ¬ (z31 l p).2.2 = 0) : (z2K l p).2.2 = (z31 l p).2.2 := by
 rw [z6M]
 unfold z0S
 rw [if_neg h]
theorem zh7 {l : List Int} {p : Nat} (h : (z31 l p).2.2 = 0) : z2K l p = z31 l p := by
 rw [z6M]
 unfold z0S
 rw [if_pos h]
def z5y (l : List Int) (p : Nat) : List (List AtT) × Nat × Int :=
 let r := z0y l p (ofT 16)
 if r.2.2 = 0 then ((z4b r.1 (r.1.length + 1) 0 []).1, r.2.1, (z4b r.1 (r.1.length + 1) 0 []).2) else ([], p, r.2.2)
theorem zbH (l : List Int) (p : Nat) (hp : p ≤ l.length) : p ≤ (z5y l p).2.1 ∧ (z5y l p).2.1 ≤ l.length := by
 have h := z49 l p (ofT 16) hp
 unfold z5y
 dsimp only
 split
 · exact h
 · exact ⟨Nat.le_refl _, hp⟩
theorem z9p (l : List Int) (p : Nat) : z3W l p = z0S [] p (z5y l p) := by
 unfold z3W z5y z0S
 dsimp only
 split
 · split
   · rename_i h1 h2; rw [h2]
   · rfl
 · rfl
abbrev nmR (n : List (List AtT)) : List (List Leaf) := n.map fun r => [z3h r]
theorem zaF (n : List (List AtT)) (r : List AtT) : nmR (n ++ [r]) = nmR n ++ [[z3h r]] := List.map_append
set_option maxHeartbeats 16000000 in
theorem zh8 (l : List Int) (p : Nat) (hp : p ≤ l.length) (hl : l.length ≤ 12000000) (hw : WfB l) : Ct Tryz.prog 235 [rdN] [z06 l p] (.tup [nmV (z5y l p).1, lv (.int .i64 (z5y l p).2.2)]) [z06 l (z5y l p).2.1] [] := by
 have hho := z1I 16
 have hop := z3w l p (ofT 16) hp (by omega) hw
 have hoe := z5X l p (ofT 16) hp (by omega) hw
 have hmem := z2w l p (ofT 16)
 unfold z5y
 generalize z0y l p (ofT 16) = X at *
 obtain ⟨x, q, e⟩ := X
 dsimp only at *
 by_cases he : e = 0
 · subst he
   have hop := hop rfl
   rw [if_pos rfl]
   have hwx : WfB x := fun y hy => hw y (hmem.2 y hy)
   obtain ⟨R, hR⟩ : ∃ R, z4b x (x.length + 1) 0 [] = R := ⟨_, rfl⟩
   rw [hR]
   refine z00 Tryz.func235 rfl rfl rfl rfl rfl (fun E hn hb => ?_)
   repeat refine nxw ?_
   refine z6f [77] [(3, 0), (3, 77)] ?_
   repeat (first | refine lo1 ?_ | refine nx ?_ | refine z6e [0] hn hop ?_)
   refine z0d (St.le_of (l := [(4, .c (.ptr 77 0)), (6, .c (.own 83 1 0 (nmR []).length))]) (h := [(0, z06 l q), (77, z06 x 0), (83, .row (.recs 1 (nmR [])))]) (by refine ⟨?_, ?_⟩ <;> (repeat' (first | exact trivial | exact rfl | refine ⟨?_, ?_⟩)) <;> first | exact rfl | (simp; done) | skip)) ?_
   refine z0l (ι := {s : Nat × Nat × List (List AtT) // s.2.1 ≤ x.length ∧ x.length - s.2.1 < s.1 ∧ s.2.2.length ≤ 64 ∧ z4b x s.1 s.2.1 s.2.2 = R}) (fun s => St.of [(4, .c (.ptr 77 0)), (6, .c (.own 83 1 0 (nmR s.1.2.2).length))] [(0, z06 l q), (77, z06 x s.1.2.1), (83, .row (.recs 1 (nmR s.1.2.2)))]) (fun s => s.1.1) (fun s => ?_) ⟨(x.length + 1, 0, []), Nat.zero_le _, by dsimp only; omega, by simp, hR⟩
   obtain ⟨⟨f, pp, acc⟩, hpp, hf, h16, hx⟩ := s
   dsimp only at hpp hf h16 hx ⊢
   obtain ⟨f, rfl⟩ : ∃ m, f = m + 1 := ⟨f - 1, by omega⟩
   have hml : (nmR acc).length = acc.length := List.length_map ..
   have hlf := z1t x pp hpp (by omega)
   rw [z4b] at hx
   by_cases hlt : pp < x.length
   · rw [if_pos hlt] at hx
     by_cases h6 : acc.length = 64
     · rw [if_pos h6] at hx
       subst hx
       repeat refine nx ?_
       exact rtU []
     · rw [if_neg h6] at hx
       have hrd := zlS x pp hpp (by omega) hwx
       have hle := zh4 x pp hpp
       by_cases he1 : (z31 x pp).2.2 = 0
       · have hk := zh7 he1
         have hbk := @z9s x pp (z2K x pp).2.1 (z2K x pp).1 hwx
         rw [hk] at hx hbk
         generalize z31 x pp = S at *
         obtain ⟨s, q1, e1⟩ := S
         dsimp only at hrd hx hle he1 hbk
         subst he1
         rw [if_pos rfl] at hx
         have hpos : 0 < (z0m s).length := z1L _ _
         have hll := congrArg List.length (hbk rfl).2
         rw [List.length_append, List.length_drop, List.length_drop] at hll
         repeat refine nx ?_
         refine z0a ⟨(f, q1, acc ++ [s]), hle.2, by dsimp only; omega, by simp; omega, hx⟩ (by dsimp only; omega) (St.le_of ⟨⟨rfl, ?_⟩, ⟨rfl, rfl, ?_⟩⟩)
         · dsimp only; rw [zaF]; rfl
         · dsimp only; rw [zaF]; rfl
       · have hk := zfI he1
         have hk2 := (zfH (l := x) (p := pp) (by rw [hk]; exact he1)).1
         dsimp only at hx
         rw [hk, if_neg he1] at hx
         generalize z31 x pp = S at *
         obtain ⟨s, q1, e1⟩ := S
         dsimp only at hrd hx hle he1
         subst hx
         repeat refine nx ?_
         exact rtU []
   · rw [if_neg hlt] at hx
     obtain rfl : pp = x.length := by omega
     subst hx
     repeat refine nx ?_
     refine z2C 2 ?_
     exact rt1 []
 · have hoe := hoe he
   rw [if_neg he]
   refine z00 Tryz.func235 rfl rfl rfl rfl rfl (fun E hn hb => ?_)
   repeat refine nxw ?_
   refine z6f [] [(3, 0)] ?_
   repeat (first | refine nx ?_ | refine z6e [0] hn hoe ?_)
   exact rtU []
theorem zfJ (l : List Int) (p : Nat) (hp : p ≤ l.length) (hl : l.length ≤ 12000000) (hw : WfB l) : Ct Tryz.prog 220 [.c (.ptr 0 0)] [z06 l p] (.tup [nmV (z3W l p).1, lv (.int .i64 (z3W l p).2.2)]) [z06 l (z3W l p).2.1] [] := by
 have h := zh8 l p hp hl hw
 have hle := zbH l p hp
 have h1 := z1P l p
 rw [z9p]
 generalize z5y l p = R at *
 obtain ⟨x, q, e⟩ := R
 dsimp only at *
 by_cases he : e = 0
 · subst he
   rw [z2I _ _ _ rfl]
   refine z00 Tryz.func220 rfl rfl rfl rfl rfl (fun E hn hb => ?_)
   repeat refine nx ?_
   exact rt1 []
 · rw [z32 _ _ _ he]
   have hbk := z22 l q p hle.1 (by omega)
   refine z00 Tryz.func220 rfl rfl rfl rfl rfl (fun E hn hb => ?_)
   repeat refine nx ?_
   exact rtU []
theorem zh9 (l : List Int) (p : Nat) (hp : p ≤ l.length) : p ≤ (z3W l p).2.1 ∧ (z3W l p).2.1 ≤ l.length := by
 rw [z9p]
 exact z59 _ _ _ _ (zbH l p hp)
theorem ze0 (b : List Int) (hl : b.length ≤ 12000000) (hw : WfB b) : Ct Tryz.prog 196 [B8 b] [] (.tup [nmV (z4x b).1, lv (.int .i64 (z4x b).2)]) [] [] := by
 have hcn := z35 b (by omega)
 have h := zfJ b 0 (Nat.zero_le _) hl hw
 have hle := zh9 b 0 (Nat.zero_le _)
 unfold z4x
 generalize z3W b 0 = R at *
 obtain ⟨x, q, e⟩ := R
 dsimp only at *
 by_cases he : e = 0
 · subst he
   rw [if_pos rfl]
   have hlf := z1t b q hle.2 (by omega)
   by_cases hlt : q < b.length
   · rw [if_pos hlt]
     refine z00 Tryz.func196 rfl rfl rfl rfl rfl (fun E hn hb => ?_)
     repeat refine nx ?_
     exact rtU []
   · rw [if_neg hlt]
     refine z00 Tryz.func196 rfl rfl rfl rfl rfl (fun E hn hb => ?_)
     repeat refine nx ?_
     exact rt1 []
 · rw [if_neg he]
   refine z00 Tryz.func196 rfl rfl rfl rfl rfl (fun E hn hb => ?_)
   repeat refine nx ?_
   exact rtU []
end Go.Proofs.YtaagjnlkinojcaaGreat

/-
  Chapter 5: the flags of a string of bits, walked over the iterator. The conditions: a right string of at most 32 bits, the last one set.
-/
import Derived.Test.YtaagjnlkinojcaaGreatQ7
import Derived.Test.YtaagjnlkinojcaaGreatW27
import Derived.RangeFuncBox
import Derived.RangeFuncLeaves
import Derived.RangeFuncNested
import Derived.Shelf.Abstract
import Derived.WalkKit
import Derived.OwnWalkIn
import Derived.TacticsInMore
import Derived.LoopNIn
import Derived.LoopIn
import Derived.Maps.AppendAt
import Derived.Test.YtaagjnlkinojcaaGreatC8
import Derived.Test.YtaagjnlkinojcaaGreatC13
import Derived.Test.YtaagjnlkinojcaaGreatM3
import Derived.Test.YtaagjnlkinojcaaGreatSxQ
import Derived.Test.YtaagjnlkinojcaaGreatQ3
namespace Go.Proofs.YtaagjnlkinojcaaGreat
set_option linter.unusedSimpArgs false
set_option linter.unusedVariables false
open Go.Sx
set_option maxRecDepth 10000
theorem zaW (k : Int) : Ct Tryz.prog 195 [lv (.int .i64 k)] [] (lv (.bool (z1G k))) [] [] := by
 refine z00 Tryz.func195 rfl rfl rfl rfl rfl (fun E hn hb => ?_)
 repeat refine nx ?_
 refine rt2 [] (congrArg (fun x => lv (.bool x)) ?_) trivial
 have hb : ∀ x : Int, (k == x) = decide (k = x) := fun x => by rw [Bool.eq_iff_iff]; simp
 unfold z1G
 simp only [hb]
 generalize decide (k = 0) = A
 generalize decide (k = 3) = B
 generalize decide (k = 4) = C
 cases A <;> cases B <;> cases C <;> rfl
theorem zlW (x : Int) : Ct Tryz.prog 226 [lv (.int .u8 x)] [] (lv (.bool (decide (127 < x)))) [] [] := by
 refine z00 Tryz.func226 rfl rfl rfl rfl rfl (fun E hn hb => ?_)
 repeat refine nx ?_
 exact rt1 []
def z57 : List Int → Nat → Int
 | [], _ => -1
 | x :: l, n => if 127 < x then n else z57 l (n + 1)
theorem zaX : ∀ (l : List Int) (n : Nat), (0 ≤ z57 l n) ↔ ¬ (l.all fun x => decide (x ≤ 127)) = true
 | [], _ => by simp [z57]
 | x :: l, n => by
   have ih := zaX l (n + 1)
   rw [z57, List.all_cons]
   by_cases h : 127 < x
   · rw [if_pos h, decide_eq_false (by omega)]
     simp
   · rw [if_neg h, decide_eq_true (by omega), Bool.true_and]
     exact ih
theorem zd1 {l : List Int} {i : Nat} (h : i < l.length) : l.drop i = l.getD i 0 :: l.drop (i + 1) := by
 rw [List.getD_eq_getElem?_getD, List.getElem?_eq_getElem h]
 exact List.drop_eq_getElem_cons h
set_option maxHeartbeats 4000000 in
theorem zhl (b : List Int) (hl : b.length ≤ 16000000) : Ct Tryz.prog 237 [B8 b, .c (.fn (.func 226) [] [])] [] (lv (.int .i64 (z57 b 0))) [] [] := by
 refine z00 Tryz.func237 rfl rfl rfl rfl rfl (fun E hn hb => ?_)
 repeat refine nx ?_
 refine z0d (St.le_of (l := [(0, B8 b), (1, .c (.fn (.func 226) [] [])), (7, lv (.int .i64 (b.length : Int))), (8, lv (.int .i64 ((0 : Nat) : Int)))]) (h := []) (by refine ⟨?_, ?_⟩ <;> (repeat' (first | exact trivial | exact rfl | refine ⟨?_, ?_⟩)) <;> first | exact rfl | (simp; done) | skip)) ?_
 refine z0l (ι := {i : Nat // i ≤ b.length ∧ z57 (b.drop i) i = z57 b 0}) (fun i => St.of [(0, B8 b), (1, .c (.fn (.func 226) [] [])), (7, lv (.int .i64 (b.length : Int))), (8, lv (.int .i64 (i.1 : Int)))] []) (fun i => b.length - i.1) (fun i => ?_) ⟨0, Nat.zero_le _, rfl⟩
 obtain ⟨i, hi, hx⟩ := i
 dsimp only
 by_cases hi2 : i < b.length
 · have hq : b.getD (i : Int).toNat 0 = b.getD i 0 := rfl
   rw [zd1 hi2, z57] at hx
   have hc := zlW (b.getD i 0)
   generalize hX : b.getD i 0 = X at *
   by_cases h : 127 < X
   · rw [if_pos h] at hx
     rw [decide_eq_true h] at hc
     repeat (first | refine nx ?_ | rw [hq])
     rw [hx]
     exact rt1 []
   · rw [if_neg h] at hx
     rw [decide_eq_false h] at hc
     repeat (first | refine nx ?_ | rw [hq])
     refine z0a ⟨i + 1, hi2, hx⟩ (by dsimp only; omega) (St.le_of ⟨⟨rfl, rfl, rfl, rfl⟩, trivial⟩)
 · obtain rfl : i = b.length := by omega
   rw [List.drop_length, z57] at hx
   rw [← hx]
   repeat refine nx ?_
   exact rt1 []
theorem zfU (b : List Int) (hl : b.length ≤ 16000000) : Ct Tryz.prog 209 [B8 b] [] (lv (.bool (z2M b))) [] [] := by
 have hi := zhl b hl
 have hc : Ct Tryz.prog 225 [B8 b, .c (.fn (.func 226) [] [])] [] (lv (.bool (decide (0 ≤ z57 b 0)))) [] [] := by
   refine z00 Tryz.func225 rfl rfl rfl rfl rfl (fun E hn hb => ?_)
   repeat refine nx ?_
   exact rt1 []
 have ha := zaX b 0
 unfold z2M
 generalize z57 b 0 = I at *
 refine z00 Tryz.func209 rfl rfl rfl rfl rfl (fun E hn hb => ?_)
 repeat refine nx ?_
 refine rt2 [] (congrArg (fun x => lv (.bool x)) ?_) trivial
 by_cases h0 : b.length = 0
 · simp [h0]
 · have : 0 < b.length := by omega
   by_cases hI : 0 ≤ I
   · have := ha.1 hI
     simp only [Bool.not_eq_true] at this
     rw [this]
     simp [hI]
   · have h2 : (b.all fun x => decide (x ≤ 127)) = true := by
       exact Decidable.byContradiction fun h => hI (ha.2 h)
     rw [h2, decide_eq_true this, decide_eq_true (by omega : (0 : Int) < b.length), decide_eq_false hI]
     rfl
theorem zd2 (b : List Int) (hl : b.length ≤ 12000000) (hw : WfB b) : Ct Tryz.prog 211 [B8 b] [] (lv (.bool (z3A b))) [] [] := by
 have hcn := z35 b (by omega)
 have hwh := z9w b 0 (Nat.zero_le _) hl hw
 unfold z3A
 generalize z0V b 0 = W at *
 obtain ⟨rs, e⟩ := W
 dsimp only at *
 by_cases he : e = 0
 · subst he
   rw [if_pos rfl] at hwh
   refine z00 Tryz.func211 rfl rfl rfl rfl rfl (fun E hn hb => ?_)
   repeat refine nx ?_
   refine rt2 [] (congrArg (fun x => lv (.bool x)) ?_) trivial
   simp
 · rw [if_neg he] at hwh
   rw [decide_eq_false he]
   refine z00 Tryz.func211 rfl rfl rfl rfl rfl (fun E hn hb => ?_)
   repeat refine nx ?_
   refine rt2 [] (congrArg (fun x => lv (.bool x)) ?_) trivial
   simp [he]
theorem zd3 {k : Int} (b : List Int) (h0 : k ≠ 0) (h1 : k ≠ 1) (h2 : k ≠ 2) (h3 : k ≠ 3) (h5 : k ≠ 5) (h6 : k ≠ 6) (h7 : k ≠ 7) (h8 : k ≠ 8) : z3o k b = false := by
 unfold z3o
 rw [if_neg (by omega), if_neg h7, if_neg h8, if_neg (by omega)]
set_option maxHeartbeats 4000000 in
theorem z9I (k : Int) (b : List Int) (hl : b.length ≤ 12000000) (hw : WfB b) : Ct Tryz.prog 180 [lv (.int .i64 k), B8 b] [] (lv (.bool (z3o k b))) [] [] := by
 have hp := zfU b (by omega)
 have ho := z9h b (by omega) hw
 have hh := zd2 b hl hw
 by_cases h1 : k = 1
 · subst h1
   show Ct _ _ _ _ (lv (.bool (z2M b))) _ _
   refine z00 Tryz.func180 rfl rfl rfl rfl rfl (fun E hn hb => ?_)
   repeat refine nx ?_
   exact rt1 []
 by_cases h2 : k = 2
 · subst h2
   show Ct _ _ _ _ (lv (.bool (z2M b))) _ _
   refine z00 Tryz.func180 rfl rfl rfl rfl rfl (fun E hn hb => ?_)
   repeat refine nx ?_
   exact rt1 []
 by_cases h6 : k = 6
 · subst h6
   show Ct _ _ _ _ (lv (.bool (z2M b))) _ _
   refine z00 Tryz.func180 rfl rfl rfl rfl rfl (fun E hn hb => ?_)
   repeat refine nx ?_
   exact rt1 []
 by_cases h7 : k = 7
 · subst h7
   show Ct _ _ _ _ (lv (.bool (decide (b.length = 4) || decide (b.length = 16)))) _ _
   refine z00 Tryz.func180 rfl rfl rfl rfl rfl (fun E hn hb => ?_)
   repeat refine nx ?_
   refine rt2 [] (congrArg (fun x => lv (.bool x)) ?_) trivial
   by_cases h4 : b.length = 4
   · simp [h4]
   · by_cases h16 : b.length = 16
     · simp [h16]
     · rw [show ((b.length : Int) == 4) = false by rw [beq_eq_false_iff_ne]; omega, show ((b.length : Int) == 16) = false by rw [beq_eq_false_iff_ne]; omega]
       simp [h4, h16]
 by_cases h8 : k = 8
 · subst h8
   show Ct _ _ _ _ (lv (.bool (decide ((z23 b).2 = 0)))) _ _
   refine z00 Tryz.func180 rfl rfl rfl rfl rfl (fun E hn hb => ?_)
   repeat refine nx ?_
   exact rt1 []
 by_cases h0 : k = 0
 · subst h0
   show Ct _ _ _ _ (lv (.bool (z3A b))) _ _
   refine z00 Tryz.func180 rfl rfl rfl rfl rfl (fun E hn hb => ?_)
   repeat refine nx ?_
   exact rt1 []
 by_cases h3 : k = 3
 · subst h3
   show Ct _ _ _ _ (lv (.bool (z3A b))) _ _
   refine z00 Tryz.func180 rfl rfl rfl rfl rfl (fun E hn hb => ?_)
   repeat refine nx ?_
   exact rt1 []
 by_cases h5 : k = 5
 · subst h5
   show Ct _ _ _ _ (lv (.bool (z3A b))) _ _
   refine z00 Tryz.func180 rfl rfl rfl rfl rfl (fun E hn hb => ?_)
   repeat refine nx ?_
   exact rt1 []
 rw [zd3 b h0 h1 h2 h3 h5 h6 h7 h8]
 refine z00 Tryz.func180 rfl rfl rfl rfl rfl (fun E hn hb => ?_)
 repeat refine nx ?_
 exact rt1 []
abbrev gnL (g : GnT) : List Leaf := [.v (.int .i64 g.1), .ints .u8 g.2.1, nmL g.2.2]
abbrev gnA (g : GnT) : Av := .agg [.lf (.v (.int .i64 g.1)), .lf (.ints .u8 g.2.1), .lf (nmL g.2.2)]
structure GnB (g : GnT) : Prop where
 l : g.2.1.length ≤ 12000000
 w : WfB g.2.1
 n : NmB g.2.2
theorem z4s (g : GnT) (h : GnB g) : Ct Tryz.prog 137 [gnA g] [] (lv (.bool (z0Q g))) [] [] := by
 obtain ⟨k, b, n⟩ := g
 obtain ⟨hl, hw, hn1⟩ := h
 dsimp only at hl hw hn1
 have hr := z4E n hn1
 have hc := z9I k b hl hw
 have hml : (nmR n).length = n.length := List.length_map ..
 unfold z0Q
 dsimp only
 by_cases hk : k = 4
 · subst hk
   rw [if_pos rfl]
   generalize z0F n = N at *
   refine z00 Tryz.func137 rfl rfl rfl rfl rfl (fun E hn hb => ?_)
   repeat refine nx ?_
   refine rt2 [] (congrArg (fun x => lv (.bool x)) ?_) trivial
   by_cases h0 : b.length = 0
   · simp [h0]
   · rw [show ((b.length : Int) == 0) = false by rw [beq_eq_false_iff_ne]; omega]
     simp [h0]
 · rw [if_neg hk]
   generalize z3o k b = C at *
   refine z00 Tryz.func137 rfl rfl rfl rfl rfl (fun E hn hb => ?_)
   repeat refine nx ?_
   refine rt2 [] (congrArg (fun x => lv (.bool x)) ?_) trivial
   rw [hml]
   by_cases h0 : n.length = 0
   · simp [h0]
   · rw [show ((n.length : Int) == 0) = false by rw [beq_eq_false_iff_ne]; omega]
     simp [h0]

abbrev z8S : Cell := .lf (.v (.slice none 0 0))
theorem z4t : z3b (.agg [.lf (.v (.int .i64 0)), z8S, z8S]) (gnA gn0) := ⟨.inl rfl, .inr ⟨rfl, .inl ⟨_, rfl⟩⟩, .inr ⟨rfl, .inr ⟨_, rfl⟩⟩, trivial⟩
theorem zek (k : Int) (b : List Int) : z3b (.agg [.lf (.v (.int .i64 k)), .lf (.ints .u8 b), z8S]) (gnA (k, b, [])) := ⟨.inl rfl, .inl rfl, .inr ⟨rfl, .inr ⟨_, rfl⟩⟩, trivial⟩
theorem zel (k : Int) (n : List (List AtT)) : z3b (.agg [.lf (.v (.int .i64 k)), z8S, .lf (nmL n)]) (gnA (k, [], n)) := ⟨.inl rfl, .inr ⟨rfl, .inl ⟨_, rfl⟩⟩, .inl rfl, trivial⟩
theorem zhm : NmB [] := ⟨by simp, fun r hr => by simp at hr⟩
theorem zhn {l : List Int} (hw : WfB l) (r n : Nat) : WfB ((l.drop r).take n) := fun z hz => hw z (List.mem_of_mem_drop (List.mem_of_mem_take hz))
theorem zho {n : List (List AtT)} : z0Q (4, [], n) = z0F n := by
 unfold z0Q
 simp
abbrev gnE (g : GnT) (e : Int) : Av := .tup [gnA g, lv (.int .i64 e)]
set_option maxHeartbeats 16000000 in
theorem zfV (l : List Int) (p : Nat) (hp : p ≤ l.length) (hl : l.length ≤ 12000000) (hw : WfB l) : Ct Tryz.prog 165 [.c (.ptr 0 0)] [z06 l p] (gnE (z2G l p).1 (z2G l p).2.2) [z06 l (z2G l p).2.1] [] := by
 have hr := z5z l p hp (by omega) hw
 have hle := z1g l p hp
 have hpos := z1Z l p hw
 unfold z2G
 generalize z09 l p = R at *
 obtain ⟨⟨⟨c, k, m⟩, n⟩, r, e⟩ := R
 dsimp only at *
 by_cases he : e = 0
 · subst he
   rw [if_pos rfl]
   have hmd := zaW k
   by_cases hc : c = 2
   · by_cases h8 : 8 < k
     · rw [if_pos (.inr (.inl h8))]
       generalize z1G k = M at *
       subst hc
       refine z00 Tryz.func165 rfl rfl rfl rfl rfl (fun E hn hb => ?_)
       repeat refine nx ?_
       refine rtU [] (hu := ?_)
       exact ⟨z4t, .inl rfl, trivial⟩
     · by_cases hm : m = z1G k
       · rw [if_neg (by rintro (h | h | h); exact h hc; exact h8 h; exact h hm)]
         subst hc
         rw [← hm] at hmd
         obtain ⟨N, rfl⟩ : ∃ N : Nat, n = N := ⟨n.toNat, by omega⟩
         by_cases hN : (l.length : Int) - r < N
         · rw [if_pos hN]
           have htk := z7S l r N (by omega) hle.2 hN (by omega)
           clear hm
           refine z00 Tryz.func165 rfl rfl rfl rfl rfl (fun E hn hb => ?_)
           repeat refine nx ?_
           refine rtU [] (hu := ?_)
           exact ⟨z4t, .inl rfl, trivial⟩
         · rw [if_neg hN, Int.toNat_natCast]
           have htk := z5O l r N (by omega) (by omega)
           have hwb := zhn hw r N
           have hlb : ((l.drop r).take N).length ≤ 12000000 := by simp; omega
           clear hm
           generalize (l.drop r).take N = b at *
           unfold z6O
           by_cases hk : k = 4
           · subst hk
             rw [if_pos rfl]
             have hpa := ze0 b hlb hwb
             have hB := @zlT b (z4x b).1 hwb hlb
             generalize z4x b = A at *
             obtain ⟨a, f⟩ := A
             dsimp only at hpa hB ⊢
             by_cases hf : f = 0
             · subst hf
               obtain ⟨b1, b2⟩ := hB rfl
               have hg := zdu (args' := [.agg [.lf (.v (.int .i64 4)), z8S, .lf (nmL a)]]) (z4s (4, [], a) ⟨by simp, fun z hz => by simp at hz, b2⟩) ⟨zel 4 a, trivial⟩
               rw [if_pos rfl]
               have hgo : z0Q (4, [], a) = true := zho.trans b1
               rw [hgo] at hg
               rw [if_pos hgo]
               refine z00 Tryz.func165 rfl rfl rfl rfl rfl (fun E hn hb => ?_)
               repeat refine nx ?_
               refine rtU [] (hu := ?_)
               exact ⟨zel 4 a, .inl rfl, trivial⟩
             · rw [if_neg hf]
               refine z00 Tryz.func165 rfl rfl rfl rfl rfl (fun E hn hb => ?_)
               repeat refine nx ?_
               refine rtU [] (hu := ?_)
               exact ⟨z4t, .inl rfl, trivial⟩
           · rw [if_neg hk]
             have hg := zdu (args' := [.agg [.lf (.v (.int .i64 k)), .lf (.ints .u8 b), z8S]]) (z4s (k, b, []) ⟨hlb, hwb, zhm⟩) ⟨zek k b, trivial⟩
             by_cases hgo : z0Q (k, b, []) = true
             · rw [hgo] at hg
               rw [if_pos hgo]
               refine z00 Tryz.func165 rfl rfl rfl rfl rfl (fun E hn hb => ?_)
               repeat refine nx ?_
               refine rtU [] (hu := ?_)
               exact ⟨zek k b, .inl rfl, trivial⟩
             · rw [Bool.eq_false_iff.2 hgo] at hg
               rw [if_neg hgo]
               refine z00 Tryz.func165 rfl rfl rfl rfl rfl (fun E hn hb => ?_)
               repeat refine nx ?_
               refine rtU [] (hu := ?_)
               exact ⟨z4t, .inl rfl, trivial⟩
       · rw [if_pos (.inr (.inr hm))]
         subst hc
         generalize z1G k = M at *
         obtain rfl : M = !m := by cases m <;> cases M <;> simp_all
         cases m with
         | false =>
           refine z00 Tryz.func165 rfl rfl rfl rfl rfl (fun E hn hb => ?_)
           repeat refine nx ?_
           refine rtU [] (hu := ?_)
           exact ⟨z4t, .inl rfl, trivial⟩
         | true =>
           refine z00 Tryz.func165 rfl rfl rfl rfl rfl (fun E hn hb => ?_)
           repeat refine nx ?_
           refine rtU [] (hu := ?_)
           exact ⟨z4t, .inl rfl, trivial⟩
   · rw [if_pos (.inl hc)]
     generalize z1G k = M at *
     refine z00 Tryz.func165 rfl rfl rfl rfl rfl (fun E hn hb => ?_)
     repeat refine nx ?_
     refine rtU [] (hu := ?_)
     exact ⟨z4t, .inl rfl, trivial⟩
 · rw [if_neg he]
   refine z00 Tryz.func165 rfl rfl rfl rfl rfl (fun E hn hb => ?_)
   repeat refine nx ?_
   refine rtU [] (hu := ?_)
   exact ⟨z4t, .inl rfl, trivial⟩

abbrev gnR (l : List GnT) : List (List Leaf) := l.map gnL
abbrev gnV (l : List GnT) : Av := .c (.lf (.recs 3 (gnR l)))
theorem z48 (l : List GnT) (g : GnT) : gnR (l ++ [g]) = gnR l ++ [gnL g] := List.map_append
theorem zfW {x : List Int} {p q : Nat} {g : GnT} (hw : WfB x) (hp : p ≤ x.length) (h : z2G x p = (g, q, 0)) : p < q := by
 have hle := z8Q x p hp
 obtain ⟨_, h2⟩ := ze8 hw h
 rw [h] at hle
 dsimp only at hle
 have hpos : 0 < (z0Y g).length := z1L _ _
 have hlen := congrArg List.length h2
 rw [List.length_append, List.length_drop, List.length_drop] at hlen
 omega
set_option maxHeartbeats 8000000 in
theorem zhp (l : List Int) (hl : l.length ≤ 12000000) (hw : WfB l) : Ct Tryz.prog 121 [.c (.ptr 0 0)] [z06 l 0] (.tup [gnV (z3p l).1, lv (.int .i64 (z3p l).2.2)]) [z06 l (z3p l).2.1] [] := by
 have hlf0 := z1t l 0 (Nat.zero_le _) (by omega)
 by_cases h0 : l = []
 · unfold z3p
   rw [if_pos (by rw [h0]; rfl)]
   subst h0
   refine z00 Tryz.func121 rfl rfl rfl rfl rfl (fun E hn hb => ?_)
   repeat refine nx ?_
   exact rtU []
 obtain ⟨R, hR⟩ : ∃ R, z3p l = R := ⟨_, rfl⟩
 rw [hR]
 unfold z3p at hR
 have hpos : 0 < l.length := List.length_pos_iff.2 h0
 rw [if_neg (by omega)] at hR
 refine z00 Tryz.func121 rfl rfl rfl rfl rfl (fun E hn hb => ?_)
 repeat refine nx ?_
 refine z1a 4 900 3 (.recs 3 []) rfl rfl (.inr (.inr ⟨_, rfl⟩)) ?_
 refine z0d (St.le_of (l := [(0, .c (.ptr 0 0)), (4, .c (.own 900 3 0 (gnR []).length))]) (h := [(0, z06 l 0), (900, .row (.recs 3 (gnR [])))]) (by refine ⟨?_, ?_⟩ <;> (repeat' (first | exact trivial | exact rfl | refine ⟨?_, ?_⟩)) <;> first | exact rfl | (simp; done) | skip)) ?_
 refine z0l (ι := {s : Nat × Nat × List GnT // s.2.1 ≤ l.length ∧ l.length - s.2.1 < s.1 ∧ s.2.2.length ≤ 10000 ∧ z4g l s.1 s.2.1 s.2.2 = R}) (fun s => St.of [(0, .c (.ptr 0 0)), (4, .c (.own 900 3 0 (gnR s.1.2.2).length))] [(0, z06 l s.1.2.1), (900, .row (.recs 3 (gnR s.1.2.2)))]) (fun s => s.1.1) (fun s => ?_) ⟨(l.length + 1, 0, []), Nat.zero_le _, by dsimp only; omega, by simp, hR⟩
 obtain ⟨⟨f, pp, acc⟩, hpp, hf, h16, hx⟩ := s
 dsimp only at hpp hf h16 hx ⊢
 obtain ⟨f, rfl⟩ : ∃ m, f = m + 1 := ⟨f - 1, by omega⟩
 have hml : (gnR acc).length = acc.length := List.length_map ..
 have hlf := z1t l pp hpp (by omega)
 rw [z4g] at hx
 by_cases hlt : pp < l.length
 · rw [if_pos hlt] at hx
   by_cases h6 : acc.length = 10000
   · rw [if_pos h6] at hx
     subst hx
     repeat refine nx ?_
     exact rtU []
   · rw [if_neg h6] at hx
     have hrd := zfV l pp hpp (by omega) hw
     have hle := z8Q l pp hpp
     have hps := @zfW l pp (z2G l pp).2.1 (z2G l pp).1 hw hpp
     generalize z2G l pp = S at *
     obtain ⟨g, q1, e1⟩ := S
     dsimp only at hrd hx hle hps
     by_cases he1 : e1 = 0
     · subst he1
       rw [if_pos rfl] at hx
       have hps := hps rfl
       obtain ⟨k, b, n⟩ := g
       repeat refine nx ?_
       refine z0a ⟨(f, q1, acc ++ [(k, b, n)]), hle.2, by dsimp only; omega, by simp; omega, hx⟩ (by dsimp only; omega) (St.le_of ⟨⟨rfl, ?_⟩, ⟨rfl, ?_⟩⟩)
       · dsimp only; rw [z48]; rfl
       · dsimp only; rw [z48]; rfl
     · rw [if_neg he1] at hx
       subst hx
       repeat refine nx ?_
       exact rtU []
 · rw [if_neg hlt] at hx
   subst hx
   repeat refine nx ?_
   refine z2C 2 ?_
   exact rt1 []
abbrev zfX (x : List GnT) (e : Int) : Av := .tup [gnV x, lv (.int .i64 e)]
theorem zfY (l : List Int) : (z3p l).2.1 ≤ l.length := by
 unfold z3p
 split
 · exact Nat.zero_le _
 · exact (zaI l _ 0 [] (Nat.zero_le _)).2
def z4H (l : List Int) : List GnT × Nat × Int := z0S [] 0 (z3p l)
theorem zbp (l : List Int) (hl : l.length ≤ 12000000) (hw : WfB l) : Ct Tryz.prog 56 [.c (.ptr 0 0)] [z06 l 0] (zfX (z4H l).1 (z4H l).2.2) [z06 l (z4H l).2.1] [] := by
 have h := zhp l hl hw
 have hle := zfY l
 have hat := z1P l 0
 have hk : Ct Tryz.prog 120 [.c (.ptr 0 0), .c (.fn (.func 121) [] [])] [z06 l 0] (zfX (z4H l).1 (z4H l).2.2) [z06 l (z4H l).2.1] [] := by
   unfold z4H
   generalize z3p l = R at *
   obtain ⟨x, q, e⟩ := R
   dsimp only at *
   by_cases he : e = 0
   · subst he
     rw [z2I _ _ _ rfl]
     refine z00 Tryz.func120 rfl rfl rfl rfl rfl (fun E hn hb => ?_)
     repeat refine nx ?_
     exact rt1 []
   · rw [z32 _ _ _ he]
     have hbk := z22 l q 0 (Nat.zero_le _) (by omega)
     refine z00 Tryz.func120 rfl rfl rfl rfl rfl (fun E hn hb => ?_)
     repeat refine nx ?_
     exact rtU []
 refine z00 Tryz.func56 rfl rfl rfl rfl rfl (fun E hn hb => ?_)
 repeat refine nx ?_
 exact rt1 []

theorem zem {b : List Int} (h : ∀ j, j < b.length → b.getD j 0 ≤ 127) : z2M b = decide (0 < b.length) := by
 unfold z2M
 rw [z8o (p := fun x => decide (x ≤ 127)) (d := 0) fun j hj => decide_eq_true (h j hj), Bool.and_true]
theorem zd4 {b : List Int} {j : Nat} (hj : j < b.length) (h : 127 < b.getD j 0) : z2M b = false := by
 unfold z2M
 rw [z6L (p := fun x => decide (x ≤ 127)) (d := 0) hj (fun hh => by rw [decide_eq_true_eq] at hh; omega), Bool.and_false]
abbrev gnB (k : Int) (b : List Int) (n : List (List AtT)) : Blk := .cells [.lf (.v (.int .i64 k)), .lf (.ints .u8 b), .lf (nmL n)]
set_option maxHeartbeats 16000000 in
theorem zd5 (g : GnT) (h : GnB g) : Ct Tryz.prog 154 [gnA g] [] (lv (.bool (z0Q g))) [] [] := by
 obtain ⟨k, b, n⟩ := g
 obtain ⟨hl, hw, hn1⟩ := h
 dsimp only at hl hw hn1
 have hr := z7u n hn1
 have hml : (nmR n).length = n.length := List.length_map ..
 unfold z0Q
 dsimp only
 by_cases hk : k = 4
 · subst hk
   rw [if_pos rfl]
   generalize z0F n = N at *
   refine z00 Tryz.func154 rfl rfl rfl rfl rfl (fun E hn hb => ?_)
   repeat refine nx ?_
   refine rt2 [] (congrArg (fun x => lv (.bool x)) ?_) trivial
   by_cases h0 : b.length = 0
   · simp [h0]
   · rw [show ((b.length : Int) == 0) = false by rw [beq_eq_false_iff_ne]; omega]
     simp [h0]
 rw [if_neg hk]
 by_cases hn0 : n.length = 0
 · obtain rfl := List.eq_nil_of_length_eq_zero hn0
   rw [decide_eq_true hn0, Bool.true_and]
   clear hr hml
   by_cases hp : k = 1 ∨ k = 2 ∨ k = 6
   · have hcg : z3o k b = z2M b := if_pos hp
     rw [hcg]
     obtain ⟨B, hB⟩ : ∃ B, z2M b = B := ⟨_, rfl⟩
     rw [hB]
     rcases hp with rfl | rfl | rfl
     all_goals
       refine z00 Tryz.func154 rfl rfl rfl rfl rfl (fun E hn hb => ?_)
       repeat refine nx ?_
       refine z0d (St.le_of (l := [(1, .c (.ptr 65 0)), (3, lv (.int .i64 (b.length : Int))), (4, lv (.int .i64 ((0 : Nat) : Int)))]) (h := [(65, gnB _ b [])]) (by refine ⟨?_, ?_⟩ <;> (repeat' (first | exact trivial | exact rfl | refine ⟨?_, ?_⟩)) <;> first | exact rfl | (simp; done) | skip)) ?_
       refine z0l (ι := {i : Nat // i ≤ b.length ∧ ∀ j, j < i → b.getD j 0 ≤ 127}) (fun i => St.of [(1, .c (.ptr 65 0)), (3, lv (.int .i64 (b.length : Int))), (4, lv (.int .i64 (i.1 : Int)))] [(65, gnB _ b [])]) (fun i => b.length - i.1) (fun i => ?_) ⟨0, Nat.zero_le _, fun j hj => by omega⟩
       obtain ⟨i, hi, hu⟩ := i
       dsimp only
       by_cases hi2 : i < b.length
       · have hq : b.getD (i : Int).toNat 0 = b.getD i 0 := rfl
         have hno := @zd4 b i hi2
         by_cases hx : 127 < b.getD i 0
         · rw [hno hx] at hB
           subst hB
           clear hno
           generalize b.getD i 0 = X at *
           repeat (first | refine nx ?_ | rw [hq])
           exact rt1 []
         · clear hno
           generalize hX : b.getD i 0 = X at *
           repeat (first | refine nx ?_ | rw [hq])
           refine z0a ⟨i + 1, hi2, fun j hj => by
             by_cases e : j = i
             · subst e; omega
             · exact hu j (by omega)⟩ (by dsimp only; omega) (St.le_of ⟨⟨rfl, rfl, rfl⟩, rfl⟩)
       · obtain rfl : i = b.length := by omega
         rw [zem hu] at hB
         subst hB
         repeat refine nx ?_
         refine rt2 [] (congrArg (fun x => lv (.bool x)) ?_) trivial
         rw [Bool.eq_iff_iff]
         simp
   by_cases h7 : k = 7
   · subst h7
     show Ct _ _ _ _ (lv (.bool (decide (b.length = 4) || decide (b.length = 16)))) _ _
     refine z00 Tryz.func154 rfl rfl rfl rfl rfl (fun E hn hb => ?_)
     repeat refine nx ?_
     refine rt2 [] (congrArg (fun x => lv (.bool x)) ?_) trivial
     by_cases h4 : b.length = 4
     · simp [h4]
     · by_cases h16 : b.length = 16
       · simp [h16]
       · rw [show ((b.length : Int) == 4) = false by rw [beq_eq_false_iff_ne]; omega, show ((b.length : Int) == 16) = false by rw [beq_eq_false_iff_ne]; omega]
         simp [h4, h16]
   have ho := zcY b (by omega) hw
   have hh := z54 b 0 (Nat.zero_le _) hl hw
   by_cases h8 : k = 8
   · subst h8
     show Ct _ _ _ _ (lv (.bool (decide ((z23 b).2 = 0)))) _ _
     refine z00 Tryz.func154 rfl rfl rfl rfl rfl (fun E hn hb => ?_)
     repeat refine nx ?_
     exact rt1 []
   by_cases h05 : k = 0 ∨ k = 3 ∨ k = 5
   · have hcg : z3o k b = z3A b := by
       unfold z3o
       rw [if_neg hp, if_neg h7, if_neg h8, if_pos h05]
     rw [hcg]
     unfold z3A
     generalize z0V b 0 = W at *
     obtain ⟨rs, e⟩ := W
     dsimp only at *
     rcases h05 with rfl | rfl | rfl
     all_goals
       refine z00 Tryz.func154 rfl rfl rfl rfl rfl (fun E hn hb => ?_)
       repeat refine nx ?_
       refine rt2 [] (congrArg (fun x => lv (.bool x)) ?_) trivial
       by_cases he : e = 0
       · simp [he]
       · simp [he]
   · have hcg : z3o k b = false := by
       unfold z3o
       rw [if_neg hp, if_neg h7, if_neg h8, if_neg h05]
     rw [hcg]
     have k1 : k ≠ 1 := fun e => hp (.inl e)
     have k2 : k ≠ 2 := fun e => hp (.inr (.inl e))
     have k6 : k ≠ 6 := fun e => hp (.inr (.inr e))
     have k0 : k ≠ 0 := fun e => h05 (.inl e)
     have k3 : k ≠ 3 := fun e => h05 (.inr (.inl e))
     have k5 : k ≠ 5 := fun e => h05 (.inr (.inr e))
     refine z00 Tryz.func154 rfl rfl rfl rfl rfl (fun E hn hb => ?_)
     repeat refine nx ?_
     exact rt1 []
 · have hpos : 0 < n.length := by omega
   rw [decide_eq_false hn0, Bool.false_and]
   refine z00 Tryz.func154 rfl rfl rfl rfl rfl (fun E hn hb => ?_)
   repeat refine nx ?_
   exact rt1 []
end Go.Proofs.YtaagjnlkinojcaaGreat

namespace Go.Proofs.YtaagjnlkinojcaaGreat
set_option linter.unusedSimpArgs false
set_option linter.unusedVariables false
open Go Go.Sx Go.RowKit Go.Shelf
attribute [local go_sem] Oper.semAt_some
set_option maxRecDepth 100000
abbrev ByR (n₀ : Nat) (w : World) (sv : Value) (l : List Int) : Prop := LfR (fun b => b < n₀) w (.ints .u8 l) sv
theorem ByR.below {n₀ : Nat} {w w' : World} {sv : Value} {l : List Int} (h : ByR n₀ w sv l) (hb : Below n₀ w w') : ByR n₀ w' sv l := h.mono fun b hb' => ⟨hb', hb.block b hb'⟩
def KpB (n₀ Bs : Nat) (A B : World) : Prop := Below n₀ A B ∧ B.heap[Bs]? = A.heap[Bs]?
theorem KpB.trans {n₀ Bs : Nat} {A B C : World} (h : KpB n₀ Bs A B) (k : KpB n₀ Bs B C) : KpB n₀ Bs A C := ⟨h.1.trans k.1, k.2.trans h.2⟩
theorem KpB.grown {n₀ Bs : Nat} {A B : World} (hg : A.grownBy B none) (hn : n₀ ≤ A.heap.size) (hB : Bs < A.heap.size) : KpB n₀ Bs A B := ⟨(Below.refl n₀ A).grown hg hn (by simp), hg.block Bs hB (by simp)⟩
end Go.Proofs.YtaagjnlkinojcaaGreat

/-
  Chapter 03: which of two sizes is less, the program's way. The conditions: rows of at most a million bytes.
-/
import Derived.Test.YtaagjnlkinojcaaGreatC8
import Derived.Test.YtaagjnlkinojcaaGreatC12
import Derived.Test.YtaagjnlkinojcaaGreatD8
import Derived.Test.YtaagjnlkinojcaaGreatW16
import Derived.Test.YtaagjnlkinojcaaGreatD15
import Derived.Test.YtaagjnlkinojcaaGreatSxQ
import Derived.Test.YtaagjnlkinojcaaGreatSxX
namespace Go.Proofs.YtaagjnlkinojcaaGreat
set_option linter.unusedSimpArgs false
set_option linter.unusedVariables false
open Go.Sx
set_option maxRecDepth 10000
def stA (l : List Int) (i : Nat) (n : Int) (f : Bool) (o : List Int) : List Int × Int :=
 if i < l.length then
   (if (nxA (l.drop i) i n f).2.1 = 0 then (if o.length = 32 then ([], 2) else prA (l.length + 1) l (nxA (l.drop i) i n f).2.2 (o ++ (if o.length = 0 then z3y (nxA (l.drop i) i n f).1 else [(nxA (l.drop i) i n f).1]))) else ([], (nxA (l.drop i) i n f).2.1))
 else (o, 0)
theorem zcn (l : List Int) (i : Nat) (o : List Int) : stA l i 0 true o = prA (l.length + 1) l i o := by
 unfold stA
 by_cases h : i < l.length
 · rw [if_pos h]
   conv => rhs; unfold prA
   rw [if_pos h]
   dsimp only
   have hn := (z58 (l.drop i) i 0 true).2.2 (by rw [z1D l i h]; simp)
   split
   · split
     · rfl
     · exact z69 l _ _ _ _ (by omega) (by omega)
   · rfl
 · rw [if_neg h]
   unfold prA
   rw [if_neg h]
set_option maxHeartbeats 8000000 in
theorem z8Q (l : List Int) (hl : l.length ≤ 1000000) (hw : WfB l) : Ct Tryz.prog 188 [B8 l] [] (.tup [I64 (z2k l).1, lv (.int .i64 (z2k l).2)]) [] [] := by
 by_cases h0 : l = []
 · subst h0
   have e2 : z2k [] = ([], 6) := rfl
   rw [e2]
   refine z00 Tryz.func188 rfl rfl rfl rfl rfl (fun E hn hb => ?_)
   repeat refine nx ?_
   exact rtU []
 obtain ⟨R, hR⟩ : ∃ R, z2k l = R := ⟨_, rfl⟩
 rw [hR]
 unfold z2k at hR
 rw [if_neg h0, ← zcn] at hR
 obtain ⟨ro, re⟩ := R
 dsimp only
 refine z00 Tryz.func188 rfl rfl rfl rfl rfl (fun E hn hb => ?_)
 repeat refine nx ?_
 refine z10 4 900 1 (.ints .i64 []) rfl rfl (.inr (.inl ⟨_, rfl⟩)) ?_
 refine z0a (St.le_of (l := [(0, B8 l), (4, .c (.own 900 1 0 ([] : List Int).length)), (5, lv (.int .i64 0)), (6, lv (.bool true)), (7, lv (.int .i64 ((0 : Nat) : Int)))]) (h := [(900, .row (.ints .i64 []))]) (by refine ⟨?_, ?_⟩ <;> (repeat' (first | exact trivial | exact rfl | refine ⟨?_, ?_⟩)) <;> first | exact rfl | (simp; done) | skip)) ?_
 refine z0j (ι := {s : Nat × Int × Bool × List Int // s.1 ≤ l.length ∧ 0 ≤ s.2.1 ∧ s.2.1 ≤ 2147483647 ∧ (s.2.2.1 = false → s.1 < l.length) ∧ s.2.2.2.length ≤ 32 ∧ stA l s.1 s.2.1 s.2.2.1 s.2.2.2 = (ro, re)}) (fun s => St.of [(0, B8 l), (4, .c (.own 900 1 0 s.1.2.2.2.length)), (5, lv (.int .i64 s.1.2.1)), (6, lv (.bool s.1.2.2.1)), (7, lv (.int .i64 (s.1.1 : Int)))] [(900, .row (.ints .i64 s.1.2.2.2))]) (fun s => l.length - s.1.1) (fun s => ?_) ⟨(0, 0, true, []), Nat.zero_le _, by simp, by simp, by simp, by simp, hR⟩
 obtain ⟨⟨i, n, f, o⟩, k1, k2, k3, k4, k5, k6⟩ := s
 dsimp only
 simp only at k1 k2 k3 k4 k5 k6
 by_cases hi : i < l.length
 · unfold stA at k6
   rw [if_pos hi, z1D l i hi] at k6
   have hx := z3W hw i
   unfold nxA at k6
   obtain ⟨x, hx1⟩ : ∃ x, l.getD i 0 = x := ⟨_, rfl⟩
   have hx2 : l.getD (i : Int).toNat 0 = x := by rw [Int.toNat_natCast]; exact hx1
   rw [hx1] at k6 hx
   have hm : 0 ≤ x % 128 ∧ x % 128 < 128 := by omega
   by_cases c1 : f = true ∧ x = 128
   · rw [if_pos c1, if_neg (by simp)] at k6
     simp only [Prod.mk.injEq] at k6
     obtain ⟨rfl, rfl⟩ := k6
     obtain ⟨rfl, rfl⟩ := c1
     repeat (first | refine nx ?_ | rw [hx2])
     exact rtU []
   · rw [if_neg c1] at k6
     have c1' : f = true → ¬ x = 128 := fun h h' => c1 ⟨h, h'⟩
     clear c1
     cases f
     case' false => clear c1'
     case' true => replace c1' := c1' rfl
     all_goals
       by_cases c2 : 2147483647 < 128 * n + x % 128
       · rw [if_pos c2, if_neg (by simp)] at k6
         simp only [Prod.mk.injEq] at k6
         obtain ⟨rfl, rfl⟩ := k6
         repeat (first | refine nx ?_ | rw [hx2])
         exact rtU []
       · rw [if_neg c2] at k6
         by_cases c3 : x < 128
         · rw [if_pos c3, if_pos (by rfl)] at k6
           by_cases h32 : o.length = 32
           · rw [if_pos h32] at k6
             simp only [Prod.mk.injEq] at k6
             obtain ⟨rfl, rfl⟩ := k6
             repeat (first | refine nx ?_ | rw [hx2])
             exact rtU []
           · rw [if_neg h32, ← zcn] at k6
             by_cases ho : o.length = 0
             · rw [if_pos ho] at k6
               obtain rfl := List.eq_nil_of_length_eq_zero ho
               unfold z3y at k6
               by_cases d1 : 128 * n + x % 128 < 80
               · rw [if_pos d1] at k6
                 by_cases d2 : 128 * n + x % 128 < 40
                 · rw [show (128 * n + x % 128) / 40 = 0 by omega, show (128 * n + x % 128) % 40 = 128 * n + x % 128 by omega] at k6
                   repeat (first | refine nx ?_ | rw [hx2])
                   refine z06 ⟨(i + 1, 0, true, [] ++ [0, 128 * n + x % 128]), by dsimp only; omega, by simp, by simp, by simp, by simp, k6⟩ (by dsimp only; omega) (St.le_of ⟨⟨rfl, rfl, rfl, rfl, rfl⟩, rfl⟩)
                 · rw [show (128 * n + x % 128) / 40 = 1 by omega, show (128 * n + x % 128) % 40 = 128 * n + x % 128 - 40 by omega] at k6
                   repeat (first | refine nx ?_ | rw [hx2])
                   refine z06 ⟨(i + 1, 0, true, [] ++ [1, 128 * n + x % 128 - 40]), by dsimp only; omega, by simp, by simp, by simp, by simp, k6⟩ (by dsimp only; omega) (St.le_of ⟨⟨rfl, rfl, rfl, rfl, rfl⟩, rfl⟩)
               · rw [if_neg d1] at k6
                 repeat (first | refine nx ?_ | rw [hx2])
                 refine z06 ⟨(i + 1, 0, true, [] ++ [2, 128 * n + x % 128 - 80]), by dsimp only; omega, by simp, by simp, by simp, by simp, k6⟩ (by dsimp only; omega) (St.le_of ⟨⟨rfl, rfl, rfl, rfl, rfl⟩, rfl⟩)
             · rw [if_neg ho] at k6
               repeat (first | refine nx ?_ | rw [hx2])
               refine z06 ⟨(i + 1, 0, true, o ++ [128 * n + x % 128]), by dsimp only; omega, by simp, by simp, by simp, by simp; omega, k6⟩ (by dsimp only; omega) (St.le_of ⟨⟨rfl, rfl, rfl, rfl, rfl⟩, rfl⟩)
         · rw [if_neg c3] at k6
           by_cases hlast : i + 1 = l.length
           · rw [hlast, List.drop_length] at k6
             rw [show nxA [] l.length (128 * n + x % 128) false = (0, 6, l.length) from rfl, if_neg (by simp)] at k6
             simp only [Prod.mk.injEq] at k6
             obtain ⟨rfl, rfl⟩ := k6
             repeat (first | refine nx ?_ | rw [hx2])
             exact rtU []
           · have k7 : stA l (i + 1) (128 * n + x % 128) false o = (ro, re) := by
               unfold stA
               rw [if_pos (by omega)]
               exact k6
             repeat (first | refine nx ?_ | rw [hx2])
             refine z06 ⟨(i + 1, 128 * n + x % 128, false, o), by dsimp only; omega, by dsimp only; omega, by dsimp only; omega, by intro _; dsimp only; omega, by dsimp only; omega, k7⟩ (by dsimp only; omega) (St.le_of ⟨⟨rfl, rfl, rfl, rfl, rfl⟩, rfl⟩)
 · unfold stA at k6
   rw [if_neg hi] at k6
   simp only [Prod.mk.injEq] at k6
   obtain ⟨rfl, rfl⟩ := k6
   obtain rfl : i = l.length := by omega
   repeat refine nx ?_
   refine z2O 2 ?_
   exact rtU []

theorem zeI (l : List Int) (p : Nat) (hp : p ≤ l.length) (hl : l.length ≤ 1000000) (hw : WfB l) : Ct Tryz.prog 168 [B8 l, lv (.int .i64 (p : Int))] [] (.tup [I64 (z3c l p).1, lv (.int .i64 ((z3c l p).2.1 : Int)), lv (.int .i64 (z3c l p).2.2)]) [] [] := by
 have hof := z2u 6
 have hop := z2t l p (ofT 6) hp hl hw
 have hmem := z0w l p (ofT 6)
 unfold z3c
 generalize z0g l p (ofT 6) = X at *
 obtain ⟨x, q, e⟩ := X
 dsimp only at *
 have hpa := z8Q x (by omega) (fun y hy => hw y (hmem.2 y hy))
 generalize z2k x = Y at *
 obtain ⟨o, f⟩ := Y
 dsimp only at *
 by_cases he : e = 0
 · subst he
   rw [if_pos rfl]
   by_cases hf : f = 0
   · subst hf
     rw [if_pos rfl]
     refine z00 Tryz.func168 rfl rfl rfl rfl rfl (fun E hn hb => ?_)
     repeat refine nx ?_
     exact rtU []
   · rw [if_neg hf]
     refine z00 Tryz.func168 rfl rfl rfl rfl rfl (fun E hn hb => ?_)
     repeat refine nx ?_
     exact rtU []
 · rw [if_neg he]
   refine z00 Tryz.func168 rfl rfl rfl rfl rfl (fun E hn hb => ?_)
   repeat refine nx ?_
   exact rtU []

theorem z2T (t : z0m) (X : List Int) : (z0q t X).length ≤ X.length + 20 := by
 have h1 := z1Z 128 5 t.2.1.toNat
 have h2 := z1Z 256 5 X.length
 have hT5 : (tgL t).length ≤ 10 := by
   unfold tgL
   split
   · simp
   · simp [z7c]; omega
 have hL5 : (z1P X.length).length ≤ 10 := by
   generalize X.length = n at *
   unfold z1P
   split
   · simp
   · simp; omega
 simp only [z0q, List.length_append]
 omega

def z1k (l : List Int) (p : Nat) : List Int × z0m × List Int × Int × Nat :=
 if ¬ (z09 l p).2.2 = 0 then ([], (z09 l p).1.1, [], (z09 l p).2.2, p)
 else if (l.length : Int) - (z09 l p).2.1 < (z09 l p).1.2 then ([], (z09 l p).1.1, [], 3, p)
 else ((l.drop p).take ((z09 l p).2.1 - p + (z09 l p).1.2.toNat), (z09 l p).1.1, (l.drop (z09 l p).2.1).take (z09 l p).1.2.toNat, 0, (z09 l p).2.1 + (z09 l p).1.2.toNat)
set_option maxHeartbeats 4000000 in
theorem zmj (l : List Int) (p : Nat) (hp : p ≤ l.length) (hl : l.length ≤ 1000000) (hw : WfB l) :
   Ct Tryz.prog 186 [.c (.ptr 0 0)] [z04 l p] (.tup [B8 (z1k l p).1, z2A (z1k l p).2.1, B8 (z1k l p).2.2.1, lv (.int .i64 (z1k l p).2.2.2.1)]) [z04 l (z1k l p).2.2.2.2] [] := by
 have hr := z4s l p hp hl hw
 have hle := z13 l p hp
 have hpos := z1F l p hw
 have hst : ¬ (z09 l p).2.2 = 0 → (z09 l p).2.1 = p := z61 _ _ _
 have hat := z1q l p
 generalize hRR : z1k l p = R
 unfold z1k at hRR
 generalize z09 l p = F at *
 obtain ⟨⟨⟨t1, t2, t3⟩, n⟩, q, e⟩ := F
 dsimp only at *
 by_cases he : e = 0
 · subst he
   rw [if_neg (by simp)] at hRR
   obtain ⟨N, rfl⟩ : ∃ N : Nat, n = N := ⟨n.toNat, by omega⟩
   rw [Int.toNat_natCast] at hRR
   have hat2 := z1q l q
   have hlf := z0R l q hle.2 (by omega)
   have hbk := z1x l q p hle.1 (by omega)
   by_cases hN : (l.length : Int) - q < N
   · rw [if_pos hN] at hRR
     subst hRR
     refine z00 Tryz.func186 rfl rfl rfl rfl rfl (fun E hn hb => ?_)
     repeat refine nx ?_
     exact rtU []
   · rw [if_neg hN] at hRR
     subst hRR
     have htk := z5Q l p (q - p + N) (by omega) hl
     rw [show ((q - p + N : Nat) : Int) = ((q : Int) - (p : Int)) + (N : Int) by omega, show p + (q - p + N) = q + N by omega] at htk
     have hcut : (((l.drop p).take (q - p + N)).take (((l.drop p).take (q - p + N)).length : Int).toNat).drop ((q : Int) - (p : Int)).toNat = (l.drop q).take N := by
       rw [Int.toNat_natCast, List.take_length, show ((q : Int) - (p : Int)).toNat = q - p by omega, List.drop_take, List.drop_drop]
       congr 1
       · omega
       · congr 1; omega
     dsimp only
     rw [← hcut]
     refine z00 Tryz.func186 rfl rfl rfl rfl rfl (fun E hn hb => ?_)
     repeat refine nx ?_
     exact rtU []
 · rw [if_pos he] at hRR
   obtain rfl := hst he
   subst hRR
   refine z00 Tryz.func186 rfl rfl rfl rfl rfl (fun E hn hb => ?_)
   repeat refine nx ?_
   exact rtU []
theorem zmk (l : List Int) (p : Nat) (hp : p ≤ l.length) (hw : WfB l) : p ≤ (z1k l p).2.2.2.2 ∧ (z1k l p).2.2.2.2 ≤ l.length ∧ (z1k l p).1.length ≤ l.length ∧ (z1k l p).2.2.1.length ≤ l.length := by
 have hle := z13 l p hp
 have hpos := z1F l p hw
 unfold z1k
 split
 · exact ⟨Nat.le_refl _, hp, Nat.zero_le _, Nat.zero_le _⟩
 · split
   · exact ⟨Nat.le_refl _, hp, Nat.zero_le _, Nat.zero_le _⟩
   · dsimp only
     refine ⟨by omega, by omega, ?_, ?_⟩ <;> simp <;> omega
theorem z75 (n : Int) (b : Bool) : Ct Tryz.prog 101 [lv (.int .i64 n), lv (.bool b)] [] (z2A (2, n, b)) [] [] := by
 refine z00 Tryz.func101 rfl rfl rfl rfl rfl (fun E hn hb => ?_)
 repeat refine nx ?_
 exact rt1 []

theorem zbT (bs : List (List Int)) (hbl : bs.length ≤ 100000) (hl : bs.flatten.length ≤ 1000000) : Ct Tryz.prog 224 [z4i bs] [] (.tup [B8 (z0q (ofT 16) bs.flatten), lv (.int .i64 0)]) [] [] := by
 have h1 := z1E 16
 have h2 := z9j (ofT 16) bs (by decide) hbl hl
 refine z00 Tryz.func224 rfl rfl rfl rfl rfl (fun E hn hb => ?_)
 repeat refine nx ?_
 exact rt1 []

def z1w (l : List Int) : Nat → Nat → List (List Int) → List (List Int) × Int
 | 0, _, acc => (acc, 0)
 | n + 1, p, acc => if l.length ≤ p then (acc, 0) else if ¬ (z1k l p).2.2.2.1 = 0 then ([], (z1k l p).2.2.2.1) else z1w l n (z1k l p).2.2.2.2 (acc ++ [(z1k l p).1])
def z12 (l : List Int) (p : Nat) : List (List Int) × Int := z1w l (l.length + 1) p []
abbrev z2l (rs : List (List Int)) : List (List Leaf) := rs.map fun b => [.ints .u8 b]
theorem z9N (b : List Int) (p : Nat) (h : (z09 b p).2.2 = 0) : p < (z09 b p).2.1 := by
 unfold z09 z0C at h ⊢
 split at h
 · rename_i h0
   rw [if_pos h0]
   unfold z2X at h h0 ⊢
   split at h0
   · rename_i ht
     rw [if_pos ht] at h ⊢
     dsimp only at h0 ⊢
     have h1 : p < (z0O b p).2.1 := by
       unfold z0O z0C at ht ⊢
       split at ht
       · rename_i h2
         rw [if_pos h2]
         unfold z2W at h2 ⊢
         split
         · rename_i h3
           rw [if_pos h3] at h2
           split
           · have := (z9p b 3 (p + 1) 0 (by omega)).1
             dsimp only
             omega
           · dsimp only; omega
         · rename_i h3
           rw [if_neg h3] at h2
           simp at h2
       · rename_i h2
         exact absurd ht h2
     have h2 : (z0O b p).2.1 ≤ (lenP b (z0O b p).2.1).2.1 := by
       by_cases hb : p < b.length
       · exact (zcw b _ (z7A b p (by omega)).2).1
       · unfold z0O z0C z2W at ht
         rw [if_neg hb] at ht
         simp at ht
     omega
   · rename_i ht
     exact absurd h0 ht
 · rename_i h0
   exact absurd h h0
theorem zco (l : List Int) (p : Nat) (hp : p < l.length) (hw : WfB l) (h : (z1k l p).2.2.2.1 = 0) : p < (z1k l p).2.2.2.2 ∧ (z1k l p).2.2.2.2 ≤ l.length ∧ (z1k l p).1 = (l.drop p).take ((z1k l p).2.2.2.2 - p) := by
 have hle := z13 l p (by omega)
 have hpos := z1F l p hw
 have hadv := z9N l p
 unfold z1k at *
 split at h
 · rename_i h'; exact absurd h h'
 · rename_i h1
   split at h
   · simp at h
   · rename_i h2
     rw [if_neg h1, if_neg h2]
     dsimp only
     have := hadv (by simpa using h1)
     refine ⟨by omega, by omega, ?_⟩
     congr 1
     omega
theorem z76 (l : List Int) (n p : Nat) (acc : List (List Int)) (hp : p < l.length) (he : (z1k l p).2.2.2.1 = 0) : z1w l (n + 1) p acc = z1w l n (z1k l p).2.2.2.2 (acc ++ [(z1k l p).1]) := by
 rw [z1w, if_neg (by omega), if_neg (by simpa using he)]
set_option maxHeartbeats 4000000 in
theorem z9O (l : List Int) (p : Nat) (hp : p ≤ l.length) (hl : l.length ≤ 100000) (hw : WfB l) :
   Ct Tryz.prog 187 [.c (.ptr 0 0)] [z04 l p] (.tup [.c (.lf (.recs 1 (z2l (z12 l p).1))), lv (.int .i64 (z12 l p).2)]) [z04 l (if (z12 l p).2 = 0 then l.length else p)] [] := by
 have hat := z1q l p
 refine z00 Tryz.func187 rfl rfl rfl rfl rfl (fun E hn hb => ?_)
 repeat refine nx ?_
 refine z10 5 900 1 (.recs 1 []) rfl rfl (.inr (.inr ⟨_, rfl⟩)) ?_
 refine z0a (St.le_of (l := [(0, .c (.ptr 0 0)), (4, lv (.int .i64 (p : Int))), (5, .c (.own 900 1 0 (z2l []).length))]) (h := [(0, z04 l p), (900, .row (.recs 1 (z2l [])))]) (by refine ⟨?_, ?_⟩ <;> (repeat' (first | exact trivial | exact rfl | refine ⟨?_, ?_⟩)) <;> first | exact rfl | (simp; done) | skip)) ?_
 refine z0j (ι := {x : Nat × Nat × List (List Int) // p ≤ x.2.1 ∧ x.2.1 ≤ l.length ∧ l.length - x.2.1 < x.1 ∧ x.2.2.length ≤ x.2.1 ∧ z1w l x.1 x.2.1 x.2.2 = z12 l p}) (fun i => St.of [(0, .c (.ptr 0 0)), (4, lv (.int .i64 (p : Int))), (5, .c (.own 900 1 0 (z2l i.1.2.2).length))] [(0, z04 l i.1.2.1), (900, .row (.recs 1 (z2l i.1.2.2)))]) (fun i => l.length - i.1.2.1) (fun i => ?_) ⟨(l.length + 1, p, []), Nat.le_refl _, hp, by dsimp only; omega, Nat.zero_le _, rfl⟩
 obtain ⟨⟨n, q, acc⟩, h0, h1, h2, h3, h4⟩ := i
 change p ≤ q at h0
 change q ≤ l.length at h1
 change l.length - q < n at h2
 change acc.length ≤ q at h3
 change z1w l n q acc = z12 l p at h4
 dsimp only
 have hlf := z0R l q h1 (by omega)
 obtain ⟨n, rfl⟩ : ∃ m, n = m + 1 := ⟨n - 1, by omega⟩
 by_cases hq : q < l.length
 · have ho := zmj l q h1 (by omega) hw
   have hf := zco l q hq hw
   have hle := zmk l q h1 hw
   have hst := z76 l n q acc hq
   have her : ¬ (z1k l q).2.2.2.1 = 0 → z1w l (n + 1) q acc = ([], (z1k l q).2.2.2.1) := fun h => by rw [z1w, if_neg (by omega), if_pos h]
   generalize z1k l q = O at *
   obtain ⟨a, ⟨t1, t2, t3⟩, c, e, r⟩ := O
   dsimp only at *
   by_cases he : e = 0
   · subst he
     have hf := hf rfl
     have hrec : z2l (acc ++ [a]) = z2l acc ++ [[.ints .u8 a]] := by simp [z2l]
     rw [hst rfl] at h4
     repeat refine nx ?_
     refine z06 ⟨(n, r, acc ++ [a]), by dsimp only; omega, by dsimp only; omega, by dsimp only; omega, by dsimp only; simp; omega, h4⟩ (by dsimp only; omega) (St.le_of ⟨⟨rfl, rfl, ?_⟩, ⟨rfl, ?_⟩⟩)
     · dsimp only; rw [hrec]; rfl
     · dsimp only; rw [hrec]; rfl
   · have her := her he
     rw [h4] at her
     rw [her]
     have hbk := z1x l r p (by omega) (by omega)
     dsimp only
     rw [if_neg he]
     repeat refine nx ?_
     exact rtU []
 · have hw0 : z12 l p = (acc, 0) := by rw [← h4, z1w, if_pos (by omega)]
   rw [hw0]
   obtain rfl : q = l.length := by omega
   dsimp only
   rw [if_pos rfl]
   repeat refine nx ?_
   refine z2O 2 ?_
   exact rtU []

def z1r : List Int → List Int → Nat
 | x :: a, y :: b => if x = y then z1r a b + 1 else 0
 | _, _ => 0
theorem zcp : ∀ a b : List Int, z1r a b ≤ a.length ∧ z1r a b ≤ b.length
 | [], b => by cases b <;> simp [z1r]
 | x :: a, [] => by simp [z1r]
 | x :: a, y :: b => by
   have := zcp a b
   simp only [z1r]
   split <;> simp <;> omega
theorem z9P : ∀ (a b : List Int) (i : Nat), (∀ k, k < i → a.getD k 0 = b.getD k 0) → i < a.length → i < b.length → a.getD i 0 ≠ b.getD i 0 → z1r a b = i
 | [], b, i, _, h, _, _ => by simp at h
 | x :: a, [], i, _, _, h, _ => by simp at h
 | x :: a, y :: b, 0, _, _, _, h => by simp at h; simp [z1r, h]
 | x :: a, y :: b, i + 1, h, h1, h2, h3 => by
   have h0 : x = y := by simpa using h 0 (by omega)
   have := z9P a b i (fun k hk => by simpa using h (k + 1) (by omega)) (by simpa using h1) (by simpa using h2) (by simpa using h3)
   simp only [z1r, h0, if_true, this]
theorem zbe : ∀ (a b : List Int), (∀ k, k < min a.length b.length → a.getD k 0 = b.getD k 0) → z1r a b = min a.length b.length
 | [], b, _ => by cases b <;> simp [z1r]
 | x :: a, [], _ => by simp [z1r]
 | x :: a, y :: b, h => by
   have h0 : x = y := by simpa using h 0 (by simp)
   have := zbe a b (fun k hk => by simpa using h (k + 1) (by simp; omega))
   simp only [z1r, h0, if_true, this]
   simp
theorem zbf : ∀ (a b : List Int), z0D a b = (if z1r a b < a.length ∧ z1r a b < b.length then (if a.getD (z1r a b) 0 < b.getD (z1r a b) 0 then -1 else 1) else if z1r a b < b.length then -1 else if z1r a b < a.length then 1 else 0)
 | [], [] => rfl
 | [], y :: b => by simp [z0D, z1r]
 | x :: a, [] => by simp [z0D, z1r]
 | x :: a, y :: b => by
   have ih := zbf a b
   by_cases h : x = y
   · subst h
     simp only [z0D, Int.lt_irrefl, if_false, z1r, if_true, ih, List.length_cons, Nat.add_lt_add_iff_right, List.getD_cons_succ]
   · simp only [z0D, z1r, h, if_false, List.length_cons, Nat.zero_lt_succ, and_self, if_true, List.getD_cons_zero]
     by_cases h1 : x < y
     · simp [h1]
     · have : y < x := by omega
       simp [h1, this]
theorem zeJ (a b : List Int) (ha : a.length ≤ 1000000) (hb' : b.length ≤ 1000000) : Ct Tryz.prog 155 [B8 a, B8 b] [] (lv (.int .i64 (z1r a b))) [] [] := by
 refine z00 Tryz.func155 rfl rfl rfl rfl rfl (fun E hn hb => ?_)
 repeat (refine nst ?_)
 have hN : min (a.length : Int) b.length = ((min a.length b.length : Nat) : Int) := by omega
 rw [hN]
 generalize hn0 : min a.length b.length = n at *
 refine z0a (St.le_of (l := [(0, B8 a), (1, B8 b), (5, lv (.int .i64 (n : Int))), (12, lv (.int .i64 (n : Int))), (13, lv (.int .i64 0))]) (h := []) (by refine ⟨?_, ?_⟩ <;> (repeat' (first | exact trivial | exact rfl | refine ⟨?_, ?_⟩)) <;> first | exact rfl | (simp; done) | skip)) ?_
 refine z0j (ι := {i : Nat // i ≤ n ∧ ∀ k, k < i → a.getD k 0 = b.getD k 0}) (fun i => St.of [(0, B8 a), (1, B8 b), (5, lv (.int .i64 (n : Int))), (12, lv (.int .i64 (n : Int))), (13, lv (.int .i64 (i.1 : Int)))] []) (fun i => n - i.1) (fun i => ?_) ⟨0, by omega, fun k hk => by omega⟩
 obtain ⟨i, hi, he⟩ := i
 dsimp only
 repeat (refine nst ?_)
 refine z05 rfl (by simp) (fun hc => ?_) (fun hc => ?_)
 · have hin : i < n := by simp at hc; omega
   repeat (refine nst ?_)
   refine z2F 9 (by kernel_rfl) (by kernel_rfl) (by kernel_rfl) (by rw [hn]; rfl) rfl rfl ?_
   repeat (first | refine dp1 ?_ | refine dg1 ?_ | refine z0B ?_)
   repeat (refine nst ?_)
   refine z05 rfl (by simp) (fun hq => ?_) (fun hq => ?_)
   · have hne : a.getD i 0 ≠ b.getD i 0 := by simpa using hq
     rw [z9P a b i he (by omega) (by omega) hne]
     repeat (refine nst ?_)
     exact rt1 []
   · have hne : a.getD i 0 = b.getD i 0 := by simpa using hq
     repeat (refine nst ?_)
     refine z06 ⟨i + 1, by omega, fun k hk => ?_⟩ (by dsimp only; omega) (St.le_of ⟨⟨rfl, rfl, rfl, rfl, rfl⟩, trivial⟩)
     rcases Nat.lt_or_ge k i with h | h
     · exact he k h
     · have : k = i := by omega
       subst this; exact hne
 · have : i = n := by simp at hc; omega
   subst this
   rw [zbe a b (by rw [hn0]; exact he), hn0]
   repeat (refine nst ?_)
   exact rt1 []
theorem z9Q (a b : List Int) (ha : a.length ≤ 1000000) (hb' : b.length ≤ 1000000) : Ct Tryz.prog 208 [B8 a, B8 b] [] (lv (.int .i64 (z0D a b))) [] [] := by
 have hpc := zbf a b
 obtain ⟨hp1, hp2⟩ := zcp a b
 generalize z0D a b = r at *
 refine z00 Tryz.func208 rfl rfl rfl rfl rfl (fun E hn hb => ?_)
 repeat (refine nst ?_)
 refine z18 (zeJ a b ha hb') rfl rfl rfl (by rw [hn]; rfl) rfl rfl (by exact vcs) rfl rfl rfl ?_
 repeat (refine nst ?_)
 generalize z1r a b = n at *
 refine z05 rfl (by simp) (fun hq => ?_) (fun hq => ?_)
 · have h1 : n < a.length ∧ n < b.length := by simpa [Bool.cond_eq_ite] using hq
   rw [if_pos h1] at hpc
   obtain ⟨h1a, h1b⟩ := h1
   repeat (refine nst ?_)
   refine z2F 9 (by kernel_rfl) (by kernel_rfl) (by kernel_rfl) (by rw [hn]; rfl) rfl rfl ?_
   repeat (first | refine dp1 ?_ | refine dg1 ?_ | refine z0B ?_)
   repeat (refine nst ?_)
   refine z05 rfl (by simp) (fun hr => ?_) (fun hr => ?_)
   · have h2 : a.getD n 0 < b.getD n 0 := by simpa using hr
     rw [if_pos h2] at hpc
     subst hpc
     repeat (refine nst ?_)
     exact rt1 []
   · have h2 : ¬ a.getD n 0 < b.getD n 0 := by simpa using hr
     rw [if_neg h2] at hpc
     subst hpc
     repeat (refine nst ?_)
     exact rt1 []
 · have h1 : ¬ (n < a.length ∧ n < b.length) := by
     simp [Bool.cond_eq_ite] at hq
     omega
   rw [if_neg h1] at hpc
   repeat (refine nst ?_)
   refine z05 rfl (by simp) (fun hr => ?_) (fun hr => ?_)
   · have h2 : n < b.length := by simpa using hr
     rw [if_pos h2] at hpc
     subst hpc
     repeat (refine nst ?_)
     exact rt1 []
   · have h2 : ¬ n < b.length := by simp at hr; omega
     rw [if_neg h2] at hpc
     repeat (refine nst ?_)
     refine z05 rfl (by simp) (fun hu => ?_) (fun hu => ?_)
     · have h3 : n < a.length := by simpa using hu
       rw [if_pos h3] at hpc
       subst hpc
       repeat (refine nst ?_)
       exact rt1 []
     · have h3 : ¬ n < a.length := by simp at hu; omega
       rw [if_neg h3] at hpc
       subst hpc
       repeat (refine nst ?_)
       exact rt1 []
end Go.Proofs.YtaagjnlkinojcaaGreat

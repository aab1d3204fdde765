/-
  Chapter 03: which of two sizes is less, the program's way. The conditions: rows of at most a million bytes.
-/
import Derived.Test.YtaagjnlkinojcaaGreatC8
import Derived.Test.YtaagjnlkinojcaaGreatC13
import Derived.Test.YtaagjnlkinojcaaGreatD8
import Derived.Test.YtaagjnlkinojcaaGreatW16
import Derived.Test.YtaagjnlkinojcaaGreatD15
import Derived.Test.YtaagjnlkinojcaaGreatSxQ
import Derived.Test.YtaagjnlkinojcaaGreatSxX
namespace Go.Proofs.YtaagjnlkinojcaaGreat
set_option linter.unusedSimpArgs false
set_option linter.unusedVariables false
open Go.Sx
set_option maxRecDepth 10000
def stA (l : List Int) (i : Nat) (n : Int) (f : Bool) (o : List Int) : List Int × Int :=
 if i < l.length then
   (if (nxA (l.drop i) i n f).2.1 = 0 then (if o.length = 32 then ([], 2) else prA (l.length + 1) l (nxA (l.drop i) i n f).2.2 (o ++ (if o.length = 0 then z2R (nxA (l.drop i) i n f).1 else [(nxA (l.drop i) i n f).1]))) else ([], (nxA (l.drop i) i n f).2.1))
 else (o, 0)
theorem zbP (l : List Int) (i : Nat) (o : List Int) : stA l i 0 true o = prA (l.length + 1) l i o := by
 unfold stA
 by_cases h : i < l.length
 · rw [if_pos h]
   conv => rhs; unfold prA
   rw [if_pos h]
   dsimp only
   have hn := (z4X (l.drop i) i 0 true).2.2 (by rw [z1B l i h]; simp)
   split
   · split
     · rfl
     · exact z63 l _ _ _ _ (by omega) (by omega)
   · rfl
 · rw [if_neg h]
   unfold prA
   rw [if_neg h]
set_option maxHeartbeats 8000000 in
theorem zcY (l : List Int) (hl : l.length ≤ 16000000) (hw : WfB l) : Ct Tryz.prog 188 [B8 l] [] (.tup [I64 (z23 l).1, lv (.int .i64 (z23 l).2)]) [] [] := by
 by_cases h0 : l = []
 · subst h0
   have e2 : z23 [] = ([], 6) := rfl
   rw [e2]
   refine z00 Tryz.func188 rfl rfl rfl rfl rfl (fun E hn hb => ?_)
   repeat refine nx ?_
   exact rtU []
 obtain ⟨R, hR⟩ : ∃ R, z23 l = R := ⟨_, rfl⟩
 rw [hR]
 unfold z23 at hR
 rw [if_neg h0, ← zbP] at hR
 obtain ⟨ro, re⟩ := R
 dsimp only
 refine z00 Tryz.func188 rfl rfl rfl rfl rfl (fun E hn hb => ?_)
 repeat refine nx ?_
 refine z1a 4 900 1 (.ints .i64 []) rfl rfl (.inr (.inl ⟨_, rfl⟩)) ?_
 refine z0d (St.le_of (l := [(0, B8 l), (4, .c (.own 900 1 0 ([] : List Int).length)), (5, lv (.int .i64 0)), (6, lv (.bool true)), (7, lv (.int .i64 ((0 : Nat) : Int)))]) (h := [(900, .row (.ints .i64 []))]) (by refine ⟨?_, ?_⟩ <;> (repeat' (first | exact trivial | exact rfl | refine ⟨?_, ?_⟩)) <;> first | exact rfl | (simp; done) | skip)) ?_
 refine z0l (ι := {s : Nat × Int × Bool × List Int // s.1 ≤ l.length ∧ 0 ≤ s.2.1 ∧ s.2.1 ≤ 2147483647 ∧ (s.2.2.1 = false → s.1 < l.length) ∧ s.2.2.2.length ≤ 32 ∧ stA l s.1 s.2.1 s.2.2.1 s.2.2.2 = (ro, re)}) (fun s => St.of [(0, B8 l), (4, .c (.own 900 1 0 s.1.2.2.2.length)), (5, lv (.int .i64 s.1.2.1)), (6, lv (.bool s.1.2.2.1)), (7, lv (.int .i64 (s.1.1 : Int)))] [(900, .row (.ints .i64 s.1.2.2.2))]) (fun s => l.length - s.1.1) (fun s => ?_) ⟨(0, 0, true, []), Nat.zero_le _, by simp, by simp, by simp, by simp, hR⟩
 obtain ⟨⟨i, n, f, o⟩, k1, k2, k3, k4, k5, k6⟩ := s
 dsimp only
 simp only at k1 k2 k3 k4 k5 k6
 by_cases hi : i < l.length
 · unfold stA at k6
   rw [if_pos hi, z1B l i hi] at k6
   have hx := z3M hw i
   unfold nxA at k6
   obtain ⟨x, hx1⟩ : ∃ x, l.getD i 0 = x := ⟨_, rfl⟩
   have hx2 : l.getD (i : Int).toNat 0 = x := by rw [Int.toNat_natCast]; exact hx1
   rw [hx1] at k6 hx
   have hm : 0 ≤ x % 128 ∧ x % 128 < 128 := by omega
   by_cases c1 : f = true ∧ x = 128
   · rw [if_pos c1, if_neg (by simp)] at k6
     simp only [Prod.mk.injEq] at k6
     obtain ⟨rfl, rfl⟩ := k6
     obtain ⟨rfl, rfl⟩ := c1
     repeat (first | refine nx ?_ | rw [hx2])
     exact rtU []
   · rw [if_neg c1] at k6
     have c1' : f = true → ¬ x = 128 := fun h h' => c1 ⟨h, h'⟩
     clear c1
     cases f
     case' false => clear c1'
     case' true => replace c1' := c1' rfl
     all_goals
       by_cases c2 : 2147483647 < 128 * n + x % 128
       · rw [if_pos c2, if_neg (by simp)] at k6
         simp only [Prod.mk.injEq] at k6
         obtain ⟨rfl, rfl⟩ := k6
         repeat (first | refine nx ?_ | rw [hx2])
         exact rtU []
       · rw [if_neg c2] at k6
         by_cases c3 : x < 128
         · rw [if_pos c3, if_pos (by rfl)] at k6
           by_cases h32 : o.length = 32
           · rw [if_pos h32] at k6
             simp only [Prod.mk.injEq] at k6
             obtain ⟨rfl, rfl⟩ := k6
             repeat (first | refine nx ?_ | rw [hx2])
             exact rtU []
           · rw [if_neg h32, ← zbP] at k6
             by_cases ho : o.length = 0
             · rw [if_pos ho] at k6
               obtain rfl := List.eq_nil_of_length_eq_zero ho
               unfold z2R at k6
               by_cases d1 : 128 * n + x % 128 < 80
               · rw [if_pos d1] at k6
                 by_cases d2 : 128 * n + x % 128 < 40
                 · rw [show (128 * n + x % 128) / 40 = 0 by omega, show (128 * n + x % 128) % 40 = 128 * n + x % 128 by omega] at k6
                   repeat (first | refine nx ?_ | rw [hx2])
                   refine z0a ⟨(i + 1, 0, true, [] ++ [0, 128 * n + x % 128]), by dsimp only; omega, by simp, by simp, by simp, by simp, k6⟩ (by dsimp only; omega) (St.le_of ⟨⟨rfl, rfl, rfl, rfl, rfl⟩, rfl⟩)
                 · rw [show (128 * n + x % 128) / 40 = 1 by omega, show (128 * n + x % 128) % 40 = 128 * n + x % 128 - 40 by omega] at k6
                   repeat (first | refine nx ?_ | rw [hx2])
                   refine z0a ⟨(i + 1, 0, true, [] ++ [1, 128 * n + x % 128 - 40]), by dsimp only; omega, by simp, by simp, by simp, by simp, k6⟩ (by dsimp only; omega) (St.le_of ⟨⟨rfl, rfl, rfl, rfl, rfl⟩, rfl⟩)
               · rw [if_neg d1] at k6
                 repeat (first | refine nx ?_ | rw [hx2])
                 refine z0a ⟨(i + 1, 0, true, [] ++ [2, 128 * n + x % 128 - 80]), by dsimp only; omega, by simp, by simp, by simp, by simp, k6⟩ (by dsimp only; omega) (St.le_of ⟨⟨rfl, rfl, rfl, rfl, rfl⟩, rfl⟩)
             · rw [if_neg ho] at k6
               repeat (first | refine nx ?_ | rw [hx2])
               refine z0a ⟨(i + 1, 0, true, o ++ [128 * n + x % 128]), by dsimp only; omega, by simp, by simp, by simp, by simp; omega, k6⟩ (by dsimp only; omega) (St.le_of ⟨⟨rfl, rfl, rfl, rfl, rfl⟩, rfl⟩)
         · rw [if_neg c3] at k6
           by_cases hlast : i + 1 = l.length
           · rw [hlast, List.drop_length] at k6
             rw [show nxA [] l.length (128 * n + x % 128) false = (0, 6, l.length) from rfl, if_neg (by simp)] at k6
             simp only [Prod.mk.injEq] at k6
             obtain ⟨rfl, rfl⟩ := k6
             repeat (first | refine nx ?_ | rw [hx2])
             exact rtU []
           · have k7 : stA l (i + 1) (128 * n + x % 128) false o = (ro, re) := by
               unfold stA
               rw [if_pos (by omega)]
               exact k6
             repeat (first | refine nx ?_ | rw [hx2])
             refine z0a ⟨(i + 1, 128 * n + x % 128, false, o), by dsimp only; omega, by dsimp only; omega, by dsimp only; omega, by intro _; dsimp only; omega, by dsimp only; omega, k7⟩ (by dsimp only; omega) (St.le_of ⟨⟨rfl, rfl, rfl, rfl, rfl⟩, rfl⟩)
 · unfold stA at k6
   rw [if_neg hi] at k6
   simp only [Prod.mk.injEq] at k6
   obtain ⟨rfl, rfl⟩ := k6
   obtain rfl : i = l.length := by omega
   repeat refine nx ?_
   refine z2C 2 ?_
   exact rtU []

theorem z1p (t : z0q) (X : List Int) : (z0i t X).length ≤ X.length + 20 := by
 have h1 := z1S 128 5 t.2.1.toNat
 have h2 := z1S 256 5 X.length
 have hT5 : (tgL t).length ≤ 10 := by
   unfold tgL
   split
   · simp
   · simp [z6X]; omega
 have hL5 : (z10 X.length).length ≤ 10 := by
   generalize X.length = n at *
   unfold z10
   split
   · simp
   · simp; omega
 simp only [z0i, List.length_append]
 omega

def z13 (l : List Int) (p : Nat) : List Int × z0q × List Int × Int × Nat :=
 if ¬ (z09 l p).2.2 = 0 then ([], (z09 l p).1.1, [], (z09 l p).2.2, p)
 else if (l.length : Int) - (z09 l p).2.1 < (z09 l p).1.2 then ([], (z09 l p).1.1, [], 3, p)
 else ((l.drop p).take ((z09 l p).2.1 - p + (z09 l p).1.2.toNat), (z09 l p).1.1, (l.drop (z09 l p).2.1).take (z09 l p).1.2.toNat, 0, (z09 l p).2.1 + (z09 l p).1.2.toNat)
set_option maxHeartbeats 4000000 in
theorem zlU (l : List Int) (p : Nat) (hp : p ≤ l.length) (hl : l.length ≤ 16000000) (hw : WfB l) :
   Ct Tryz.prog 186 [.c (.ptr 0 0)] [z06 l p] (.tup [B8 (z13 l p).1, z1W (z13 l p).2.1, B8 (z13 l p).2.2.1, lv (.int .i64 (z13 l p).2.2.2.1)]) [z06 l (z13 l p).2.2.2.2] [] := by
 have hr := z5z l p hp hl hw
 have hle := z1g l p hp
 have hpos := z1Z l p hw
 have hst : ¬ (z09 l p).2.2 = 0 → (z09 l p).2.1 = p := z5W _ _ _
 have hat := z1P l p
 generalize hRR : z13 l p = R
 unfold z13 at hRR
 generalize z09 l p = F at *
 obtain ⟨⟨⟨t1, t2, t3⟩, n⟩, q, e⟩ := F
 dsimp only at *
 by_cases he : e = 0
 · subst he
   rw [if_neg (by simp)] at hRR
   obtain ⟨N, rfl⟩ : ∃ N : Nat, n = N := ⟨n.toNat, by omega⟩
   rw [Int.toNat_natCast] at hRR
   have hat2 := z1P l q
   have hlf := z1t l q hle.2 (by omega)
   have hbk := z22 l q p hle.1 (by omega)
   by_cases hN : (l.length : Int) - q < N
   · rw [if_pos hN] at hRR
     subst hRR
     refine z00 Tryz.func186 rfl rfl rfl rfl rfl (fun E hn hb => ?_)
     repeat refine nx ?_
     exact rtU []
   · rw [if_neg hN] at hRR
     subst hRR
     have htk := z5O l p (q - p + N) (by omega) hl
     rw [show ((q - p + N : Nat) : Int) = ((q : Int) - (p : Int)) + (N : Int) by omega, show p + (q - p + N) = q + N by omega] at htk
     have hcut : (((l.drop p).take (q - p + N)).take (((l.drop p).take (q - p + N)).length : Int).toNat).drop ((q : Int) - (p : Int)).toNat = (l.drop q).take N := by
       rw [Int.toNat_natCast, List.take_length, show ((q : Int) - (p : Int)).toNat = q - p by omega, List.drop_take, List.drop_drop]
       congr 1
       · omega
       · congr 1; omega
     dsimp only
     rw [← hcut]
     refine z00 Tryz.func186 rfl rfl rfl rfl rfl (fun E hn hb => ?_)
     repeat refine nx ?_
     exact rtU []
 · rw [if_pos he] at hRR
   obtain rfl := hst he
   subst hRR
   refine z00 Tryz.func186 rfl rfl rfl rfl rfl (fun E hn hb => ?_)
   repeat refine nx ?_
   exact rtU []
theorem zlV (l : List Int) (p : Nat) (hp : p ≤ l.length) (hw : WfB l) : p ≤ (z13 l p).2.2.2.2 ∧ (z13 l p).2.2.2.2 ≤ l.length ∧ (z13 l p).1.length ≤ l.length ∧ (z13 l p).2.2.1.length ≤ l.length := by
 have hle := z1g l p hp
 have hpos := z1Z l p hw
 unfold z13
 split
 · exact ⟨Nat.le_refl _, hp, Nat.zero_le _, Nat.zero_le _⟩
 · split
   · exact ⟨Nat.le_refl _, hp, Nat.zero_le _, Nat.zero_le _⟩
   · dsimp only
     refine ⟨by omega, by omega, ?_, ?_⟩ <;> simp <;> omega

theorem zcZ (t : z0q) (h : z0z t = false) : Ct Tryz.prog 191 [z1W t] [] (.tup [B8 [], lv (.int .i64 1)]) [] [] := by
 have hr := z6z t
 rw [h] at hr
 refine z00 Tryz.func191 rfl rfl rfl rfl rfl (fun E hn hb => ?_)
 repeat refine nx ?_
 exact rtU []
theorem zfR (t : z0q) (bs : List (List Int)) (h : z0z t = false) : Ct Tryz.prog 158 [z1W t, z27 bs] [] (.tup [B8 [], lv (.int .i64 1)]) [] [] := by
 have hr := zcZ t h
 refine z00 Tryz.func158 rfl rfl rfl rfl rfl (fun E hn hb => ?_)
 repeat refine nx ?_
 exact rtU []
def z5n (t : z0q) (b : List Int) : List Int × Int := if z0z t = true then (z0i t b, 0) else ([], 1)
theorem z7N (t : z0q) (bs : List (List Int)) (hbl : bs.length ≤ 12000000) (hl : bs.flatten.length ≤ 16000000) :
   Ct Tryz.prog 158 [z1W t, z27 bs] [] (.tup [B8 (z5n t bs.flatten).1, lv (.int .i64 (z5n t bs.flatten).2)]) [] [] := by
 unfold z5n
 cases h : z0z t with
 | true => rw [if_pos rfl]; exact z7i t bs h hbl hl
 | false => rw [if_neg (by simp)]; exact zfR t bs h
theorem zbo (bs : List (List Int)) (hbl : bs.length ≤ 12000000) (hl : bs.flatten.length ≤ 16000000) : Ct Tryz.prog 224 [z27 bs] [] (.tup [B8 (z0i (ofT 16) bs.flatten), lv (.int .i64 0)]) [] [] := by
 have h1 := z1I 16
 have h2 := z7i (ofT 16) bs (by decide) hbl hl
 refine z00 Tryz.func224 rfl rfl rfl rfl rfl (fun E hn hb => ?_)
 repeat refine nx ?_
 exact rt1 []

def z0U (l : List Int) : Nat → Nat → List (List Int) → List (List Int) × Int
 | 0, _, acc => (acc, 0)
 | n + 1, p, acc => if l.length ≤ p then (acc, 0) else if ¬ (z13 l p).2.2.2.1 = 0 then ([], (z13 l p).2.2.2.1) else z0U l n (z13 l p).2.2.2.2 (acc ++ [(z13 l p).1])
def z0V (l : List Int) (p : Nat) : List (List Int) × Int := z0U l (l.length + 1) p []
abbrev z1E (rs : List (List Int)) : List (List Leaf) := rs.map fun b => [.ints .u8 b]
theorem z9v (b : List Int) (p : Nat) (h : (z09 b p).2.2 = 0) : p < (z09 b p).2.1 := by
 unfold z09 z0S at h ⊢
 split at h
 · rename_i h0
   rw [if_pos h0]
   unfold z2m at h h0 ⊢
   split at h0
   · rename_i ht
     rw [if_pos ht] at h ⊢
     dsimp only at h0 ⊢
     have h1 : p < (z0H b p).2.1 := by
       unfold z0H z0S at ht ⊢
       split at ht
       · rename_i h2
         rw [if_pos h2]
         unfold z2l at h2 ⊢
         split
         · rename_i h3
           rw [if_pos h3] at h2
           split
           · have := (z8T b 3 (p + 1) 0 (by omega)).1
             dsimp only
             omega
           · dsimp only; omega
         · rename_i h3
           rw [if_neg h3] at h2
           simp at h2
       · rename_i h2
         exact absurd ht h2
     have h2 : (z0H b p).2.1 ≤ (lenP b (z0H b p).2.1).2.1 := by
       by_cases hb : p < b.length
       · exact (zbV b _ (z7j b p (by omega)).2).1
       · unfold z0H z0S z2l at ht
         rw [if_neg hb] at ht
         simp at ht
     omega
   · rename_i ht
     exact absurd h0 ht
 · rename_i h0
   exact absurd h h0
theorem zbQ (l : List Int) (p : Nat) (hp : p < l.length) (hw : WfB l) (h : (z13 l p).2.2.2.1 = 0) : p < (z13 l p).2.2.2.2 ∧ (z13 l p).2.2.2.2 ≤ l.length ∧ (z13 l p).1 = (l.drop p).take ((z13 l p).2.2.2.2 - p) := by
 have hle := z1g l p (by omega)
 have hpos := z1Z l p hw
 have hadv := z9v l p
 unfold z13 at *
 split at h
 · rename_i h'; exact absurd h h'
 · rename_i h1
   split at h
   · simp at h
   · rename_i h2
     rw [if_neg h1, if_neg h2]
     dsimp only
     have := hadv (by simpa using h1)
     refine ⟨by omega, by omega, ?_⟩
     congr 1
     omega
theorem z6R (l : List Int) (n p : Nat) (acc : List (List Int)) (hp : p < l.length) (he : (z13 l p).2.2.2.1 = 0) : z0U l (n + 1) p acc = z0U l n (z13 l p).2.2.2.2 (acc ++ [(z13 l p).1]) := by
 rw [z0U, if_neg (by omega), if_neg (by simpa using he)]
set_option maxHeartbeats 4000000 in
theorem z9w (l : List Int) (p : Nat) (hp : p ≤ l.length) (hl : l.length ≤ 12000000) (hw : WfB l) :
   Ct Tryz.prog 187 [.c (.ptr 0 0)] [z06 l p] (.tup [.c (.lf (.recs 1 (z1E (z0V l p).1))), lv (.int .i64 (z0V l p).2)]) [z06 l (if (z0V l p).2 = 0 then l.length else p)] [] := by
 have hat := z1P l p
 refine z00 Tryz.func187 rfl rfl rfl rfl rfl (fun E hn hb => ?_)
 repeat refine nx ?_
 refine z1a 5 900 1 (.recs 1 []) rfl rfl (.inr (.inr ⟨_, rfl⟩)) ?_
 refine z0d (St.le_of (l := [(0, .c (.ptr 0 0)), (4, lv (.int .i64 (p : Int))), (5, .c (.own 900 1 0 (z1E []).length))]) (h := [(0, z06 l p), (900, .row (.recs 1 (z1E [])))]) (by refine ⟨?_, ?_⟩ <;> (repeat' (first | exact trivial | exact rfl | refine ⟨?_, ?_⟩)) <;> first | exact rfl | (simp; done) | skip)) ?_
 refine z0l (ι := {x : Nat × Nat × List (List Int) // p ≤ x.2.1 ∧ x.2.1 ≤ l.length ∧ l.length - x.2.1 < x.1 ∧ x.2.2.length ≤ x.2.1 ∧ z0U l x.1 x.2.1 x.2.2 = z0V l p}) (fun i => St.of [(0, .c (.ptr 0 0)), (4, lv (.int .i64 (p : Int))), (5, .c (.own 900 1 0 (z1E i.1.2.2).length))] [(0, z06 l i.1.2.1), (900, .row (.recs 1 (z1E i.1.2.2)))]) (fun i => l.length - i.1.2.1) (fun i => ?_) ⟨(l.length + 1, p, []), Nat.le_refl _, hp, by dsimp only; omega, Nat.zero_le _, rfl⟩
 obtain ⟨⟨n, q, acc⟩, h0, h1, h2, h3, h4⟩ := i
 change p ≤ q at h0
 change q ≤ l.length at h1
 change l.length - q < n at h2
 change acc.length ≤ q at h3
 change z0U l n q acc = z0V l p at h4
 dsimp only
 have hlf := z1t l q h1 (by omega)
 obtain ⟨n, rfl⟩ : ∃ m, n = m + 1 := ⟨n - 1, by omega⟩
 by_cases hq : q < l.length
 · have ho := zlU l q h1 (by omega) hw
   have hf := zbQ l q hq hw
   have hle := zlV l q h1 hw
   have hst := z6R l n q acc hq
   have her : ¬ (z13 l q).2.2.2.1 = 0 → z0U l (n + 1) q acc = ([], (z13 l q).2.2.2.1) := fun h => by rw [z0U, if_neg (by omega), if_pos h]
   generalize z13 l q = O at *
   obtain ⟨a, ⟨t1, t2, t3⟩, c, e, r⟩ := O
   dsimp only at *
   by_cases he : e = 0
   · subst he
     have hf := hf rfl
     have hrec : z1E (acc ++ [a]) = z1E acc ++ [[.ints .u8 a]] := by simp [z1E]
     rw [hst rfl] at h4
     repeat refine nx ?_
     refine z0a ⟨(n, r, acc ++ [a]), by dsimp only; omega, by dsimp only; omega, by dsimp only; omega, by dsimp only; simp; omega, h4⟩ (by dsimp only; omega) (St.le_of ⟨⟨rfl, rfl, ?_⟩, ⟨rfl, ?_⟩⟩)
     · dsimp only; rw [hrec]; rfl
     · dsimp only; rw [hrec]; rfl
   · have her := her he
     rw [h4] at her
     rw [her]
     have hbk := z22 l r p (by omega) (by omega)
     dsimp only
     rw [if_neg he]
     repeat refine nx ?_
     exact rtU []
 · have hw0 : z0V l p = (acc, 0) := by rw [← h4, z0U, if_pos (by omega)]
   rw [hw0]
   obtain rfl : q = l.length := by omega
   dsimp only
   rw [if_pos rfl]
   repeat refine nx ?_
   refine z2C 2 ?_
   exact rtU []

def z1n : List Int → List Int → Nat
 | x :: a, y :: b => if x = y then z1n a b + 1 else 0
 | _, _ => 0
theorem zbR : ∀ a b : List Int, z1n a b ≤ a.length ∧ z1n a b ≤ b.length
 | [], b => by cases b <;> simp [z1n]
 | x :: a, [] => by simp [z1n]
 | x :: a, y :: b => by
   have := zbR a b
   simp only [z1n]
   split <;> simp <;> omega
theorem z9x : ∀ (a b : List Int) (i : Nat), (∀ k, k < i → a.getD k 0 = b.getD k 0) → i < a.length → i < b.length → a.getD i 0 ≠ b.getD i 0 → z1n a b = i
 | [], b, i, _, h, _, _ => by simp at h
 | x :: a, [], i, _, _, h, _ => by simp at h
 | x :: a, y :: b, 0, _, _, _, h => by simp at h; simp [z1n, h]
 | x :: a, y :: b, i + 1, h, h1, h2, h3 => by
   have h0 : x = y := by simpa using h 0 (by omega)
   have := z9x a b i (fun k hk => by simpa using h (k + 1) (by omega)) (by simpa using h1) (by simpa using h2) (by simpa using h3)
   simp only [z1n, h0, if_true, this]
theorem zaS : ∀ (a b : List Int), (∀ k, k < min a.length b.length → a.getD k 0 = b.getD k 0) → z1n a b = min a.length b.length
 | [], b, _ => by cases b <;> simp [z1n]
 | x :: a, [], _ => by simp [z1n]
 | x :: a, y :: b, h => by
   have h0 : x = y := by simpa using h 0 (by simp)
   have := zaS a b (fun k hk => by simpa using h (k + 1) (by simp; omega))
   simp only [z1n, h0, if_true, this]
   simp
theorem zaT : ∀ (a b : List Int), z0v a b = (if z1n a b < a.length ∧ z1n a b < b.length then (if a.getD (z1n a b) 0 < b.getD (z1n a b) 0 then -1 else 1) else if z1n a b < b.length then -1 else if z1n a b < a.length then 1 else 0)
 | [], [] => rfl
 | [], y :: b => by simp [z0v, z1n]
 | x :: a, [] => by simp [z0v, z1n]
 | x :: a, y :: b => by
   have ih := zaT a b
   by_cases h : x = y
   · subst h
     simp only [z0v, Int.lt_irrefl, if_false, z1n, if_true, ih, List.length_cons, Nat.add_lt_add_iff_right, List.getD_cons_succ]
   · simp only [z0v, z1n, h, if_false, List.length_cons, Nat.zero_lt_succ, and_self, if_true, List.getD_cons_zero]
     by_cases h1 : x < y
     · simp [h1]
     · have : y < x := by omega
       simp [h1, this]
theorem zei (a b : List Int) (ha : a.length ≤ 16000000) (hb' : b.length ≤ 16000000) : Ct Tryz.prog 155 [B8 a, B8 b] [] (lv (.int .i64 (z1n a b))) [] [] := by
 refine z00 Tryz.func155 rfl rfl rfl rfl rfl (fun E hn hb => ?_)
 repeat (refine nst ?_)
 have hN : min (a.length : Int) b.length = ((min a.length b.length : Nat) : Int) := by omega
 rw [hN]
 generalize hn0 : min a.length b.length = n at *
 refine z0d (St.le_of (l := [(0, B8 a), (1, B8 b), (5, lv (.int .i64 (n : Int))), (12, lv (.int .i64 (n : Int))), (13, lv (.int .i64 0))]) (h := []) (by refine ⟨?_, ?_⟩ <;> (repeat' (first | exact trivial | exact rfl | refine ⟨?_, ?_⟩)) <;> first | exact rfl | (simp; done) | skip)) ?_
 refine z0l (ι := {i : Nat // i ≤ n ∧ ∀ k, k < i → a.getD k 0 = b.getD k 0}) (fun i => St.of [(0, B8 a), (1, B8 b), (5, lv (.int .i64 (n : Int))), (12, lv (.int .i64 (n : Int))), (13, lv (.int .i64 (i.1 : Int)))] []) (fun i => n - i.1) (fun i => ?_) ⟨0, by omega, fun k hk => by omega⟩
 obtain ⟨i, hi, he⟩ := i
 dsimp only
 repeat (refine nst ?_)
 refine z04 rfl (by simp) (fun hc => ?_) (fun hc => ?_)
 · have hin : i < n := by simp at hc; omega
   repeat (refine nst ?_)
   refine z2u 9 (by kernel_rfl) (by kernel_rfl) (by kernel_rfl) (by rw [hn]; rfl) rfl rfl ?_
   repeat (first | refine dp1 ?_ | refine dg1 ?_ | refine z0E ?_)
   repeat (refine nst ?_)
   refine z04 rfl (by simp) (fun hq => ?_) (fun hq => ?_)
   · have hne : a.getD i 0 ≠ b.getD i 0 := by simpa using hq
     rw [z9x a b i he (by omega) (by omega) hne]
     repeat (refine nst ?_)
     exact rt1 []
   · have hne : a.getD i 0 = b.getD i 0 := by simpa using hq
     repeat (refine nst ?_)
     refine z0a ⟨i + 1, by omega, fun k hk => ?_⟩ (by dsimp only; omega) (St.le_of ⟨⟨rfl, rfl, rfl, rfl, rfl⟩, trivial⟩)
     rcases Nat.lt_or_ge k i with h | h
     · exact he k h
     · have : k = i := by omega
       subst this; exact hne
 · have : i = n := by simp at hc; omega
   subst this
   rw [zaS a b (by rw [hn0]; exact he), hn0]
   repeat (refine nst ?_)
   exact rt1 []
theorem z5o (a b : List Int) (ha : a.length ≤ 16000000) (hb' : b.length ≤ 16000000) : Ct Tryz.prog 208 [B8 a, B8 b] [] (lv (.int .i64 (z0v a b))) [] [] := by
 have hpc := zaT a b
 obtain ⟨hp1, hp2⟩ := zbR a b
 generalize z0v a b = r at *
 refine z00 Tryz.func208 rfl rfl rfl rfl rfl (fun E hn hb => ?_)
 repeat (refine nst ?_)
 refine z1e (zei a b ha hb') rfl rfl rfl (by rw [hn]; rfl) rfl rfl (by exact vcs) rfl rfl rfl ?_
 repeat (refine nst ?_)
 generalize z1n a b = n at *
 refine z04 rfl (by simp) (fun hq => ?_) (fun hq => ?_)
 · have h1 : n < a.length ∧ n < b.length := by simpa [Bool.cond_eq_ite] using hq
   rw [if_pos h1] at hpc
   obtain ⟨h1a, h1b⟩ := h1
   repeat (refine nst ?_)
   refine z2u 9 (by kernel_rfl) (by kernel_rfl) (by kernel_rfl) (by rw [hn]; rfl) rfl rfl ?_
   repeat (first | refine dp1 ?_ | refine dg1 ?_ | refine z0E ?_)
   repeat (refine nst ?_)
   refine z04 rfl (by simp) (fun hr => ?_) (fun hr => ?_)
   · have h2 : a.getD n 0 < b.getD n 0 := by simpa using hr
     rw [if_pos h2] at hpc
     subst hpc
     repeat (refine nst ?_)
     exact rt1 []
   · have h2 : ¬ a.getD n 0 < b.getD n 0 := by simpa using hr
     rw [if_neg h2] at hpc
     subst hpc
     repeat (refine nst ?_)
     exact rt1 []
 · have h1 : ¬ (n < a.length ∧ n < b.length) := by
     simp [Bool.cond_eq_ite] at hq
     omega
   rw [if_neg h1] at hpc
   repeat (refine nst ?_)
   refine z04 rfl (by simp) (fun hr => ?_) (fun hr => ?_)
   · have h2 : n < b.length := by simpa using hr
     rw [if_pos h2] at hpc
     subst hpc
     repeat (refine nst ?_)
     exact rt1 []
   · have h2 : ¬ n < b.length := by simp at hr; omega
     rw [if_neg h2] at hpc
     repeat (refine nst ?_)
     refine z04 rfl (by simp) (fun hu => ?_) (fun hu => ?_)
     · have h3 : n < a.length := by simpa using hu
       rw [if_pos h3] at hpc
       subst hpc
       repeat (refine nst ?_)
       exact rt1 []
     · have h3 : ¬ n < a.length := by simp at hu; omega
       rw [if_neg h3] at hpc
       subst hpc
       repeat (refine nst ?_)
       exact rt1 []
end Go.Proofs.YtaagjnlkinojcaaGreat

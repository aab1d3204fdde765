/-
  Chapter 16: places, points that may be. The conditions: rows that a machine can hold.
-/
import Derived.Test.YtaagjnlkinojcaaGreatO5
import Derived.Test.YtaagjnlkinojcaaGreatC8
import Derived.Test.YtaagjnlkinojcaaGreatN1
import Derived.Test.YtaagjnlkinojcaaGreatQ14
import Derived.Test.YtaagjnlkinojcaaGreatC13
import Derived.Test.YtaagjnlkinojcaaGreatM3
import Derived.Test.YtaagjnlkinojcaaGreatSxQ
import Derived.Test.YtaagjnlkinojcaaGreatO3
import Derived.Test.YtaagjnlkinojcaaGreatQ3
namespace Go.Proofs.YtaagjnlkinojcaaGreat
set_option linter.unusedSimpArgs false
set_option linter.unusedVariables false
open Go.Sx
set_option maxRecDepth 10000
theorem z3u (n : Int) (b : Bool) : Ct Tryz.prog 111 [lv (.int .i64 n), lv (.bool b)] [] (z1W (2, n, b)) [] [] := by
 refine z00 Tryz.func111 rfl rfl rfl rfl rfl (fun E hn hb => ?_)
 repeat refine nx ?_
 exact rt1 []
def isT (l : List Int) (p : Nat) (t : z0q) : Bool := decide ((z09 l p).2.2 = 0) && decide ((z09 l p).1.1 = t)
theorem z5A (l : List Int) (p : Nat) (t : z0q) (hp : p ≤ l.length) (hl : l.length ≤ 16000000) (hw : WfB l) : Ct Tryz.prog 110 [.c (.ptr 0 0), z1W t] [z06 l p] (lv (.bool (isT l p t))) [z06 l p] [] := by
 have hat := z1P l p
 have hrd := z75 l p hp hl hw
 have hle := z1g l p hp
 unfold isT
 generalize z09 l p = R at *
 obtain ⟨⟨u, n⟩, q, e⟩ := R
 dsimp only at *
 have hbk := z22 l q p hle.1 (by omega)
 obtain ⟨u1, u2, u3⟩ := u
 obtain ⟨t1, t2, t3⟩ := t
 by_cases he : e = 0
 · subst he
   obtain ⟨B, hB⟩ : ∃ B, (decide ((0 : Int) = 0) && decide ((u1, u2, u3) = (t1, t2, t3))) = B := ⟨_, rfl⟩
   rw [hB]
   refine z00 Tryz.func110 rfl rfl rfl rfl rfl (fun E hn hb => ?_)
   repeat refine nx ?_
   refine rt2 [] ?_ ?_
   · refine congrArg (fun x => lv (.bool x)) ?_
     rw [← hB]
     simp [z2b, Cell.kill, Cell.kill1, Bool.and_assoc]
     try rfl
   · trivial
 · rw [decide_eq_false he]
   refine z00 Tryz.func110 rfl rfl rfl rfl rfl (fun E hn hb => ?_)
   repeat refine nx ?_
   refine rt2 [] ?_ ?_
   · refine congrArg (fun x => lv (.bool x)) ?_
     simp [he]
   · trivial
abbrev z9O : Av := lv (.slice none 0 0)
abbrev zeJ : Av := lv (.pointer none)
theorem zeK (l : List Int) (p : Nat) (n : Int) (b : Bool) (g : Nat) (hp : p ≤ l.length) (hl : l.length ≤ 16000000) (hw : WfB l) (h : isT l p (2, n, b) = false) : Ct Tryz.prog 108 [.c (.ptr 0 0), lv (.int .i64 n), lv (.bool b), .c (.fn (.func g) [] [])] [z06 l p] (.tup [zeJ, lv (.int .i64 0)]) [z06 l p] [] := by
 have h1 := z3u n b
 have h2 := z5A l p (2, n, b) hp hl hw
 rw [h] at h2
 refine z00 Tryz.func108 rfl rfl rfl rfl rfl (fun E hn hb => ?_)
 repeat refine nx ?_
 exact rt1 []
theorem zeL (l : List Int) (p : Nat) (n : Int) (b : Bool) (g : Nat) (hp : p ≤ l.length) (hl : l.length ≤ 16000000) (hw : WfB l) (h : isT l p (2, n, b) = false) : Ct Tryz.prog 115 [.c (.ptr 0 0), lv (.int .i64 n), lv (.bool b), .c (.fn (.func g) [] [])] [z06 l p] (.tup [z9O, lv (.int .i64 0)]) [z06 l p] [] := by
 have h1 := z3u n b
 have h2 := z5A l p (2, n, b) hp hl hw
 rw [h] at h2
 refine z00 Tryz.func115 rfl rfl rfl rfl rfl (fun E hn hb => ?_)
 repeat refine nx ?_
 exact rt1 []
theorem zeM (l : List Int) (p : Nat) (n : Int) (b : Bool) (g : Nat) (hp : p ≤ l.length) (hl : l.length ≤ 16000000) (hw : WfB l) (h : isT l p (2, n, b) = false) : Ct Tryz.prog 112 [.c (.ptr 0 0), lv (.int .i64 n), lv (.bool b), .c (.fn (.func g) [] [])] [z06 l p] (.tup [z9O, lv (.int .i64 0)]) [z06 l p] [] := by
 have h1 := z3u n b
 have h2 := z5A l p (2, n, b) hp hl hw
 rw [h] at h2
 refine z00 Tryz.func112 rfl rfl rfl rfl rfl (fun E hn hb => ?_)
 repeat refine nx ?_
 exact rt1 []
theorem zeN (l : List Int) (p : Nat) (n : Int) (b : Bool) (g : Nat) (hp : p ≤ l.length) (hl : l.length ≤ 16000000) (hw : WfB l) (h : isT l p (2, n, b) = false) : Ct Tryz.prog 149 [.c (.ptr 0 0), lv (.int .i64 n), lv (.bool b), .c (.fn (.func g) [] [])] [z06 l p] (.tup [lv (.bool false), lv (.int .i64 0)]) [z06 l p] [] := by
 have h1 := z3u n b
 have h2 := z5A l p (2, n, b) hp hl hw
 rw [h] at h2
 refine z00 Tryz.func149 rfl rfl rfl rfl rfl (fun E hn hb => ?_)
 repeat refine nx ?_
 exact rt1 []
abbrev z3f (e : Int) : Blk := .cells [.ptr 1 0, .lf (.v (.int .i64 e))]
theorem z7y (l : List Int) (p : Nat) (n : Int) (b : Bool) (g : Nat) (hp : p ≤ l.length) (hl : l.length ≤ 16000000) (hw : WfB l) (h : isT l p (2, n, b) = false) : Ct Tryz.prog 51 [.c (.ptr 0 0), lv (.int .i64 n), lv (.bool b), .c (.fn (.func g) [] [])] [z3f 0, z06 l p] zeJ [z3f 0, z06 l p] [] := by
 have h1 := zeK l p n b g hp hl hw h
 refine z00 Tryz.func51 rfl rfl rfl rfl rfl (fun E hn hb => ?_)
 repeat refine nx ?_
 exact rt1 []
theorem z7z (l : List Int) (p : Nat) (n : Int) (b : Bool) (g : Nat) (hp : p ≤ l.length) (hl : l.length ≤ 16000000) (hw : WfB l) (h : isT l p (2, n, b) = false) : Ct Tryz.prog 53 [.c (.ptr 0 0), lv (.int .i64 n), lv (.bool b), .c (.fn (.func g) [] [])] [z3f 0, z06 l p] z9O [z3f 0, z06 l p] [] := by
 have h1 := zeL l p n b g hp hl hw h
 refine z00 Tryz.func53 rfl rfl rfl rfl rfl (fun E hn hb => ?_)
 repeat refine nx ?_
 exact rt1 []
theorem zeO (l : List Int) (p : Nat) (n : Int) (b : Bool) (g : Nat) (hp : p ≤ l.length) (hl : l.length ≤ 16000000) (hw : WfB l) (h : isT l p (2, n, b) = false) : Ct Tryz.prog 55 [.c (.ptr 0 0), lv (.int .i64 n), lv (.bool b), .c (.fn (.func g) [] [])] [z3f 0, z06 l p] z9O [z3f 0, z06 l p] [] := by
 have h1 := zeM l p n b g hp hl hw h
 refine z00 Tryz.func55 rfl rfl rfl rfl rfl (fun E hn hb => ?_)
 repeat refine nx ?_
 exact rt1 []
theorem z3q (l : List Int) (p : Nat) (n : Int) (b : Bool) (g : Nat) (hp : p ≤ l.length) (hl : l.length ≤ 16000000) (hw : WfB l) (h : isT l p (2, n, b) = false) : Ct Tryz.prog 90 [.c (.ptr 0 0), lv (.int .i64 n), lv (.bool b), .c (.fn (.func g) [] [])] [z3f 0, z06 l p] (lv (.bool false)) [z3f 0, z06 l p] [] := by
 have h1 := zeN l p n b g hp hl hw h
 refine z00 Tryz.func90 rfl rfl rfl rfl rfl (fun E hn hb => ?_)
 repeat refine nx ?_
 exact rt1 []
theorem zdf : Ct Tryz.prog 91 [.c (.ptr 0 0)] [z06 [255] 0] (.tup [lv (.bool true), lv (.int .i64 0)]) [z06 [255] 1] [] := by
 have h1 := zc3 [255] 0 (by decide) (by decide)
 refine z00 Tryz.func91 rfl rfl rfl rfl rfl (fun E hn hb => ?_)
 repeat refine nx ?_
 exact rt1 []
theorem zdg (l : List Int) (p q : Nat) (n : Int) (b : Bool) (hp : p ≤ l.length) (hl : l.length ≤ 16000000) (hw : WfB l) (h : isT l p (2, n, b) = true) (ho : z0y l p (2, n, b) = ([255], q, 0)) : Ct Tryz.prog 149 [.c (.ptr 0 0), lv (.int .i64 n), lv (.bool b), .c (.fn (.func 91) [] [])] [z06 l p] (.tup [lv (.bool true), lv (.int .i64 0)]) [z06 l q] [] := by
 have h1 := z3u n b
 have h2 := z5A l p (2, n, b) hp hl hw
 rw [h] at h2
 have h3 := z3w l p (2, n, b) hp hl hw (by rw [ho])
 rw [ho] at h3
 have h4 := zdf
 have h5 := z1t [255] 1 (by decide) (by decide)
 dsimp only at h3
 refine z00 Tryz.func149 rfl rfl rfl rfl rfl (fun E hn hb => ?_)
 repeat refine nx ?_
 exact rt1 []
theorem zdh (l : List Int) (p q : Nat) (n : Int) (b : Bool) (hp : p ≤ l.length) (hl : l.length ≤ 16000000) (hw : WfB l) (h : isT l p (2, n, b) = true) (ho : z0y l p (2, n, b) = ([255], q, 0)) : Ct Tryz.prog 90 [.c (.ptr 0 0), lv (.int .i64 n), lv (.bool b), .c (.fn (.func 91) [] [])] [z3f 0, z06 l p] (lv (.bool true)) [z3f 0, z06 l q] [] := by
 have h1 := zdg l p q n b hp hl hw h ho
 refine z00 Tryz.func90 rfl rfl rfl rfl rfl (fun E hn hb => ?_)
 repeat refine nx ?_
 exact rt1 []

abbrev whC (w : WhT) : Leaf := .obj [.recs 3 (gnR w.1), z3h w.2]
abbrev wpL : Option WhT → Leaf
 | none => .v (.pointer none)
 | some w => whC w
end Go.Proofs.YtaagjnlkinojcaaGreat

namespace Go.Proofs.YtaagjnlkinojcaaGreat
set_option linter.unusedSimpArgs false
set_option linter.unusedVariables false
open Go Go.Sx
set_option maxRecDepth 10000
def z4u (m : Nat) : List Int → Nat
 | [] => m
 | x :: l => z4u (if 0 ≤ x ∧ x ≤ 8 then m ||| 2 ^ x.toNat else m) l
theorem zbs : ∀ (l : List Int) (m : Nat), m < 512 → z4u m l < 512
 | [], m, h => h
 | x :: l, m, h => by
   rw [z4u]
   refine zbs l _ ?_
   split
   · rename_i hx
     have : 2 ^ x.toNat < 2 ^ 9 := Nat.pow_lt_pow_right (by decide) (by omega)
     exact Nat.or_lt_two_pow (n := 9) h this
   · exact h
abbrev IQ (l : List Int) : Av := .c (.lf (.ints .i64 l))
theorem orM : ∀ m : Fin 512, ∀ r : Fin 9, IntKind.i64.wrap (BitVec.ofInt IntKind.i64.bits ((m.val : Nat) : Int) ||| BitVec.ofInt IntKind.i64.bits (1 * 2 ^ min (((r.val : Nat) : Int).toNat) IntKind.i64.bits)).toNat = ((m.val ||| 2 ^ r.val : Nat) : Int) := by decide +kernel
theorem shM : ∀ r : Fin 9, IntKind.i64.wrap (1 * 2 ^ min (((r.val : Nat) : Int).toNat) IntKind.i64.bits) = 1 * 2 ^ min (((r.val : Nat) : Int).toNat) IntKind.i64.bits ∧ 1 * 2 ^ min (((r.val : Nat) : Int).toNat) IntKind.i64.bits = ((2 ^ r.val : Nat) : Int) ∧ 2 ^ r.val ≤ 256 := by decide +kernel
theorem z91 : ∀ (l : List Int) (m : Nat) (i : Nat), i < l.length → z4u m (l.take (i + 1)) = (if 0 ≤ l.getD i 0 ∧ l.getD i 0 ≤ 8 then z4u m (l.take i) ||| 2 ^ (l.getD i 0).toNat else z4u m (l.take i))
 | [], m, i, h => by simp at h
 | x :: l, m, 0, h => by simp [z4u]
 | x :: l, m, i + 1, h => by
   have := z91 l (if 0 ≤ x ∧ x ≤ 8 then m ||| 2 ^ x.toNat else m) i (by simpa using h)
   simpa [z4u] using this
set_option maxHeartbeats 4000000 in
theorem zgz (l : List Int) (hl : l.length ≤ 16000000) : Ct Tryz.prog 12 [IQ l] [] (lv (.int .i64 ((z4u 0 l : Nat) : Int))) [] [] := by
 refine z00 Tryz.func12 rfl rfl rfl rfl rfl (fun E hn hb => ?_)
 repeat refine nx ?_
 refine z0d (St.le_of (l := [(3, lv (.int .i64 0)), (6, IQ l), (7, lv (.int .i64 (l.length : Int))), (8, lv (.int .i64 ((0 : Nat) : Int)))]) (h := []) (by refine ⟨?_, ?_⟩ <;> (repeat' (first | exact trivial | exact rfl | refine ⟨?_, ?_⟩)) <;> first | exact rfl | (simp; done) | skip)) ?_
 refine z0l (ι := {i : Nat // i ≤ l.length}) (fun i => St.of [(3, lv (.int .i64 ((z4u 0 (l.take i.1) : Nat) : Int))), (6, IQ l), (7, lv (.int .i64 (l.length : Int))), (8, lv (.int .i64 (i.1 : Int)))] []) (fun i => l.length - i.1) (fun i => ?_) ⟨0, by omega⟩
 obtain ⟨i, hi⟩ := i
 dsimp only
 by_cases hi2 : i < l.length
 · have hnx := z91 l 0 i hi2
   have hlt := zbs (l.take i) 0 (by decide)
   have hq : l.getD (i : Int).toNat 0 = l.getD i 0 := rfl
   generalize z4u 0 (l.take i) = m at *
   generalize l.getD i 0 = x at *
   by_cases hx : 0 ≤ x ∧ x ≤ 8
   · rw [if_pos hx] at hnx
     obtain ⟨r, rfl⟩ : ∃ r : Nat, x = r := ⟨x.toNat, by omega⟩
     obtain ⟨s1, s2, s3⟩ := shM ⟨r, by omega⟩
     have ho := orM ⟨m, hlt⟩ ⟨r, by omega⟩
     dsimp only at s1 s2 s3 ho
     rw [Int.toNat_natCast] at hnx
     repeat (first | refine nx ?_ | rw [hq])
     rw [ho, ← hnx]
     refine z0a ⟨i + 1, by omega⟩ (by dsimp only; omega) (St.le_of ⟨⟨rfl, rfl, rfl, rfl⟩, trivial⟩)
   · rw [if_neg hx] at hnx
     rcases Int.lt_or_le x 0 with h | h
     · repeat (first | refine nx ?_ | rw [hq])
       rw [← hnx]
       refine z0a ⟨i + 1, by omega⟩ (by dsimp only; omega) (St.le_of ⟨⟨rfl, rfl, rfl, rfl⟩, trivial⟩)
     · have h2 : 8 < x := by omega
       repeat (first | refine nx ?_ | rw [hq])
       rw [← hnx]
       refine z0a ⟨i + 1, by omega⟩ (by dsimp only; omega) (St.le_of ⟨⟨rfl, rfl, rfl, rfl⟩, trivial⟩)
 · obtain rfl : i = l.length := by omega
   rw [List.take_length]
   repeat refine nx ?_
   exact rt1 []
end Go.Proofs.YtaagjnlkinojcaaGreat

namespace Go.Proofs.YtaagjnlkinojcaaGreat
set_option linter.unusedSimpArgs false
set_option linter.unusedVariables false
open Go.Sx
set_option maxRecDepth 10000
theorem zc7 {l : List Int} (h : (l.all fun x => decide (0 ≤ x) && decide (x < 256)) = true) : WfB l := fun x hx => by
 have := List.all_eq_true.1 h x hx
 simpa using this
abbrev poA : Av := .agg [.lf (.v (.pointer none)), .lf (.v (.slice none 0 0)), .lf (.v (.slice none 0 0))]
abbrev scA (u : Bool) : Av := .agg [.lf (.v (.pointer none)), .lf (.v (.bool u)), .lf (.v (.bool false)), .lf (.v (.bool false)), .lf (.v (.bool false)), .lf (.v (.slice none 0 0))]
theorem z92 : Ct Tryz.prog 86 [zeJ, z9O] [] (lv (.bool true)) [] [] := by
 refine z00 Tryz.func86 rfl rfl rfl rfl rfl (fun E hn hb => ?_)
 repeat (first | refine nx ?_ | refine wgF (lv (.bool false)) hn ?_)
 exact rt1 []
theorem zdi : Ct Tryz.prog 41 [poA] [] (lv (.bool false)) [] [] := by
 have h1 := z92
 refine z00 Tryz.func41 rfl rfl rfl rfl rfl (fun E hn hb => ?_)
 repeat (first | refine nx ?_ | refine wgF (lv (.bool false)) hn ?_)
 exact rt1 []
abbrev bsR (l : List Bool) : Av := .c (.lf (.recs 1 (l.map fun b => [Leaf.v (.bool b)])))
def z3C : List Bool → Nat
 | [] => 0
 | b :: l => (cond b 1 0) + z3C l
theorem z9P : ∀ (l : List Bool) (i : Nat), i < l.length → z3C (l.take (i + 1)) = z3C (l.take i) + cond (l.getD i false) 1 0
 | [], i, h => by simp at h
 | b :: l, 0, h => by simp [z3C]
 | b :: l, i + 1, h => by
   have := z9P l i (by simpa using h)
   simp only [List.take_succ_cons, z3C, List.getD_cons_succ]
   omega
theorem zdj : ∀ l : List Bool, z3C l ≤ l.length
 | [] => by simp [z3C]
 | b :: l => by
   have := zdj l
   cases b <;> simp [z3C] <;> omega
theorem zeP (l : List Bool) (hl : l.length ≤ 1000) : Ct Tryz.prog 85 [bsR l] [] (lv (.int .i64 (z3C l : Int))) [] [] := by
 refine z00 Tryz.func85 rfl rfl rfl rfl rfl (fun E hn hb => ?_)
 repeat refine nx ?_
 rw [List.length_map]
 refine z0d (St.le_of (l := [(3, lv (.int .i64 0)), (6, bsR l), (7, lv (.int .i64 (l.length : Int))), (8, lv (.int .i64 ((0 : Nat) : Int)))]) (h := []) (by refine ⟨?_, ?_⟩ <;> (repeat' (first | exact trivial | exact rfl | refine ⟨?_, ?_⟩)) <;> first | exact rfl | (simp; done) | skip)) ?_
 refine z0l (ι := {i : Nat // i ≤ l.length}) (fun i => St.of [(3, lv (.int .i64 ((z3C (l.take i.1) : Nat) : Int))), (6, bsR l), (7, lv (.int .i64 (l.length : Int))), (8, lv (.int .i64 (i.1 : Int)))] []) (fun i => l.length - i.1) (fun i => ?_) ⟨0, by omega⟩
 obtain ⟨i, hi⟩ := i
 dsimp only
 by_cases hi2 : i < l.length
 · have hnx := z9P l i hi2
   have hle := zdj (l.take i)
   have hlt : (l.take i).length ≤ 1000 := by simp; omega
   have hq : l.getD (i : Int).toNat default = l.getD i false := rfl
   generalize z3C (l.take i) = n at *
   generalize l.getD i false = b at *
   cases b with
   | true =>
     repeat (first | refine nx ?_ | rw [hq])
     refine z0a ⟨i + 1, by omega⟩ (by dsimp only; omega) (St.le_of ⟨⟨?_, rfl, rfl, rfl⟩, trivial⟩)
     dsimp only; rw [hnx]; rfl
   | false =>
     repeat (first | refine nx ?_ | rw [hq])
     refine z0a ⟨i + 1, by omega⟩ (by dsimp only; omega) (St.le_of ⟨⟨?_, rfl, rfl, rfl⟩, trivial⟩)
     dsimp only; rw [hnx]; rfl
 · obtain rfl : i = l.length := by omega
   rw [List.take_length]
   repeat refine nx ?_
   exact rt1 []
theorem z93 (u : Bool) : Ct Tryz.prog 32 [scA u] [] (lv (.bool u)) [] [] := by
 have h1 := z92
 have h2 := zeP [u, false, false] (by simp)
 have h2 : Ct Tryz.prog 85 [.c (.lf (.recs 1 [[Leaf.v (.bool u)], [Leaf.v (.bool false)], [Leaf.v (.bool false)]]))] [] (lv (.int .i64 ((z3C [u, false, false] : Nat) : Int))) [] [] := h2
 cases u with
 | true =>
   rw [show z3C [true, false, false] = 1 from rfl] at h2
   refine z00 Tryz.func32 rfl rfl rfl rfl rfl (fun E hn hb => ?_)
   repeat (first | refine nx ?_ | refine wgF (lv (.bool false)) hn ?_)
   refine rt2 [] (congrArg (fun x => lv (.bool x)) ?_) trivial; (simp [z2b, Cell.kill, Cell.kill1])
 | false =>
   rw [show z3C [false, false, false] = 0 from rfl] at h2
   refine z00 Tryz.func32 rfl rfl rfl rfl rfl (fun E hn hb => ?_)
   repeat (first | refine nx ?_ | refine wgF (lv (.bool false)) hn ?_)
   refine rt2 [] (congrArg (fun x => lv (.bool x)) ?_) trivial; (simp [z2b, Cell.kill, Cell.kill1])
theorem zeQ : Ct Tryz.prog 50 [.c (.ptr 0 0)] [z3f 0, z06 [] 0] poA [z3f 0, z06 [] 0] [] := by
 have h1 := z7y [] 0 0 true 52 (by decide) (by decide) (fun x hx => by cases hx) (by decide +kernel)
 have h2 := z7z [] 0 1 false 54 (by decide) (by decide) (fun x hx => by cases hx) (by decide +kernel)
 have h3 := zeO [] 0 2 true 56 (by decide) (by decide) (fun x hx => by cases hx) (by decide +kernel)
 refine z00 Tryz.func50 rfl rfl rfl rfl rfl (fun E hn hb => ?_)
 repeat refine nx ?_
 exact rt1 []
theorem zgA : Ct Tryz.prog 49 [.c (.ptr 0 0), .c (.fn (.func 50) [] []), .c (.fn (.func 41) [] [])] [z06 [48, 0] 0] (.tup [poA, lv (.int .i64 6)]) [z06 [48, 0] 0] [] := by
 have ho : z0y [48, 0] 0 (ofT 16) = ([], 2, 0) := by decide +kernel
 have hw : WfB [48, 0] := zc7 (by decide +kernel)
 have h0 := z1P [48, 0] 0
 have h1 := z1I 16
 have h2 := z3w [48, 0] 0 (ofT 16) (by decide) (by decide) hw (by rw [ho])
 rw [ho] at h2
 dsimp only at h2
 have h3 := zeQ
 have h4 := z1t [] 0 (by decide) (by decide)
 have h5 := zdi
 have h6 := z22 [48, 0] 2 0 (by decide) (by decide)
 refine z00 Tryz.func49 rfl rfl rfl rfl rfl (fun E hn hb => ?_)
 repeat refine nx ?_
 exact rt1 []
theorem zl3 : Ct Tryz.prog 14 [.c (.ptr 0 0)] [z06 [48, 0] 0] (.tup [poA, lv (.int .i64 6)]) [z06 [48, 0] 0] [] := by
 have h1 := zgA
 refine z00 Tryz.func14 rfl rfl rfl rfl rfl (fun E hn hb => ?_)
 repeat refine nx ?_
 exact rt1 []
theorem zeR : Ct Tryz.prog 89 [.c (.ptr 0 0)] [z3f 0, z06 [] 0] (scA false) [z3f 0, z06 [] 0] [] := by
 have hw : WfB [] := fun x hx => by cases hx
 have h1 := z7y [] 0 0 true 52 (by decide) (by decide) hw (by decide +kernel)
 have h2 := z3q [] 0 1 false 91 (by decide) (by decide) hw (by decide +kernel)
 have h3 := z3q [] 0 2 false 91 (by decide) (by decide) hw (by decide +kernel)
 have h4 := z7z [] 0 3 false 54 (by decide) (by decide) hw (by decide +kernel)
 have h5 := z3q [] 0 4 false 91 (by decide) (by decide) hw (by decide +kernel)
 have h6 := z3q [] 0 5 false 91 (by decide) (by decide) hw (by decide +kernel)
 refine z00 Tryz.func89 rfl rfl rfl rfl rfl (fun E hn hb => ?_)
 repeat refine nx ?_
 exact rt1 []
theorem zgB : Ct Tryz.prog 88 [.c (.ptr 0 0), .c (.fn (.func 89) [] []), .c (.fn (.func 32) [] [])] [z06 [48, 0] 0] (.tup [scA false, lv (.int .i64 6)]) [z06 [48, 0] 0] [] := by
 have ho : z0y [48, 0] 0 (ofT 16) = ([], 2, 0) := by decide +kernel
 have hw : WfB [48, 0] := zc7 (by decide +kernel)
 have h0 := z1P [48, 0] 0
 have h1 := z1I 16
 have h2 := z3w [48, 0] 0 (ofT 16) (by decide) (by decide) hw (by rw [ho])
 rw [ho] at h2
 dsimp only at h2
 have h3 := zeR
 have h4 := z1t [] 0 (by decide) (by decide)
 have h5 := z93 false
 have h6 := z22 [48, 0] 2 0 (by decide) (by decide)
 refine z00 Tryz.func88 rfl rfl rfl rfl rfl (fun E hn hb => ?_)
 repeat refine nx ?_
 exact rt1 []
theorem zl4 : Ct Tryz.prog 34 [.c (.ptr 0 0)] [z06 [48, 0] 0] (.tup [scA false, lv (.int .i64 6)]) [z06 [48, 0] 0] [] := by
 have h1 := zgB
 refine z00 Tryz.func34 rfl rfl rfl rfl rfl (fun E hn hb => ?_)
 repeat refine nx ?_
 exact rt1 []
theorem zdk : Ct Tryz.prog 89 [.c (.ptr 0 0)] [z3f 0, z06 [129, 1, 255] 0] (scA true) [z3f 0, z06 [129, 1, 255] 3] [] := by
 have hw : WfB [129, 1, 255] := zc7 (by decide +kernel)
 have h1 := z7y [129, 1, 255] 0 0 true 52 (by decide) (by decide) hw (by decide +kernel)
 have h2 := zdh [129, 1, 255] 0 3 1 false (by decide) (by decide) hw (by decide +kernel) (by decide +kernel)
 have h3 := z3q [129, 1, 255] 3 2 false 91 (by decide) (by decide) hw (by decide +kernel)
 have h4 := z7z [129, 1, 255] 3 3 false 54 (by decide) (by decide) hw (by decide +kernel)
 have h5 := z3q [129, 1, 255] 3 4 false 91 (by decide) (by decide) hw (by decide +kernel)
 have h6 := z3q [129, 1, 255] 3 5 false 91 (by decide) (by decide) hw (by decide +kernel)
 refine z00 Tryz.func89 rfl rfl rfl rfl rfl (fun E hn hb => ?_)
 repeat refine nx ?_
 exact rt1 []
theorem zeS : Ct Tryz.prog 88 [.c (.ptr 0 0), .c (.fn (.func 89) [] []), .c (.fn (.func 32) [] [])] [z06 [48, 3, 129, 1, 255] 0] (.tup [scA true, lv (.int .i64 0)]) [z06 [48, 3, 129, 1, 255] 5] [] := by
 have ho : z0y [48, 3, 129, 1, 255] 0 (ofT 16) = ([129, 1, 255], 5, 0) := by decide +kernel
 have hw : WfB [48, 3, 129, 1, 255] := zc7 (by decide +kernel)
 have h0 := z1P [48, 3, 129, 1, 255] 0
 have h1 := z1I 16
 have h2 := z3w [48, 3, 129, 1, 255] 0 (ofT 16) (by decide) (by decide) hw (by rw [ho])
 rw [ho] at h2
 dsimp only at h2
 have h3 := zdk
 have h4 := z1t [129, 1, 255] 3 (by decide) (by decide)
 have h5 := z93 true
 refine z00 Tryz.func88 rfl rfl rfl rfl rfl (fun E hn hb => ?_)
 repeat refine nx ?_
 exact rt1 []
theorem zgC : Ct Tryz.prog 34 [.c (.ptr 0 0)] [z06 [48, 3, 129, 1, 255] 0] (.tup [scA true, lv (.int .i64 0)]) [z06 [48, 3, 129, 1, 255] 5] [] := by
 have h1 := zeS
 refine z00 Tryz.func34 rfl rfl rfl rfl rfl (fun E hn hb => ?_)
 repeat refine nx ?_
 exact rt1 []
theorem zc8 : Ct Tryz.prog 11 [] [] (lv (.bool true)) [] [] := by
 have h1 := z35 [48, 0] (by decide)
 have h2 := z35 [48, 3, 129, 1, 255] (by decide)
 have h3 := zl3
 have h5 := zgC
 have h4 := zl4
 have h6 := zgz [1, 8] (by decide)
 rw [show z4u 0 [1, 8] = 258 from by decide] at h6
 refine z00 Tryz.func11 rfl rfl rfl rfl rfl (fun E hn hb => ?_)
 repeat refine nx ?_
 refine z0r [85] h5 rfl rfl (by rw [hn]; rfl) rfl rfl (by trivial) ⟨rfl, rfl, (by simp [z0f]), rfl⟩ ?_
 repeat (first | refine nx ?_ | refine znK rfl rfl ?_)
 refine rt2 [] (congrArg (fun x => lv (.bool x)) ?_) trivial; (simp [z2b, Cell.kill, Cell.kill1])

theorem lgE {P : Go.Program} {E : Env} {ops : Array Go.Oper} {Q : Go.Exit → Go.Act → Go.World → Prop} {rest : List Go.Oper} {o : Go.Oper} {σ : St} {t e : Go.TypeId} {sz by_ n s nt : Nat} {parts : Array (Nat × Go.Operand)} {ps : List Prop} {out : List Cell} {d : Leaf} {dd : Option Nat} {i : Nat} {g G : Bool} (hn : E.n = nt) (hk : WL P E ops Q rest (σ.put dd (.cnd G (.c (.lf d))))) (hop : o.op = .buildSlice t n parts := by exact rfl) (hg : o.guard = some (i, g) := by exact rfl) (hG : z0X ops σ i g = some G := by exact rfl) (hdf : z0e o.dst some = some dd := by exact rfl) (hd : z08 nt dd = true := by exact rfl)
   (hE : Elt P t e sz by_ := by exact z0j rfl rfl rfl) (hs : z1N sz some = some s := by exact rfl) (hf : z18 (fun i => some (i * s, s)) (List.replicate (n * s) .un) (parts.toList.map fun (i, x) => (i, ox σ x)) = some (ps, out) := by exact rfl) (hdd : z2B (z24 P e s n out) some = some d := by exact rfl) (hnn : n * s ≤ 16777216 ∧ n ≤ 16777216 ∧ z0c d = n ∧ szD d = s := by exact ⟨by decide, by decide, rfl, rfl⟩)
   (hz : z01 P e := by first | (simp; done) | fail) (hp : G = true → z03 ps := by intro hG; first | trivial | exact hG | (simp; done)) : WL P E ops Q (o :: rest) σ := by
 obtain rfl := z1k hs
 simp only [z0g, Option.some.injEq] at hdf
 subst hdf
 exact z0W (z38 hg hG fun hh => z73 hop hE hz hf (hp hh) (z2d hdd) hnn) (by rw [hn]; exact hd) hk

abbrev lfV (L : Leaf) : Av := .c (.lf L)
abbrev wpV (o : Option WhT) : Av := .c (.lf (wpL o))

set_option maxHeartbeats 4000000 in
theorem zeT (l : List GnT) (hb1 : ∀ g ∈ l, GnB g) (hl : l.length ≤ 16000000) : Ct Tryz.prog 98 [gnV l] [] (lv (.bool (z26 l))) [] [] := by
 have hml : (gnR l).length = l.length := List.length_map ..
 unfold z26
 by_cases h0 : l.length = 0
 · obtain rfl := List.eq_nil_of_length_eq_zero h0
   refine z00 Tryz.func98 rfl rfl rfl rfl rfl (fun E hn hb => ?_)
   repeat refine nx ?_
   exact rt1 []
 by_cases h9 : 10000 < l.length
 · rw [decide_eq_false (by omega : ¬ l.length ≤ 10000), Bool.and_false, Bool.false_and]
   refine z00 Tryz.func98 rfl rfl rfl rfl rfl (fun E hn hb => ?_)
   repeat refine nx ?_
   exact rt1 []
 rw [decide_eq_true (by omega : 0 < l.length), decide_eq_true (by omega : l.length ≤ 10000), Bool.true_and, Bool.true_and]
 refine z00 Tryz.func98 rfl rfl rfl rfl rfl (fun E hn hb => ?_)
 repeat refine nx ?_
 refine z04 rfl (by simp) (fun hc => ?_) (fun hc => ?_)
 · exfalso
   rw [hml, show ((l.length : Int) == 0) = false by rw [beq_eq_false_iff_ne]; omega, show decide ((10000 : Int) < (l.length : Int)) = false by rw [decide_eq_false_iff_not]; omega] at hc
   cases hc
 clear hc
 repeat refine nx ?_
 rw [hml]
 refine z0d (St.le_of (l := [(13, gnV l), (14, lv (.int .i64 (l.length : Int))), (15, lv (.int .i64 ((0 : Nat) : Int)))]) (h := []) (by refine ⟨?_, ?_⟩ <;> (repeat' (first | exact trivial | exact rfl | refine ⟨?_, ?_⟩)) <;> first | exact rfl | (simp; done) | skip)) ?_
 refine z0l (ι := {i : Nat // i ≤ l.length ∧ ∀ j, j < i → z0Q (l.getD j gn0) = true}) (fun i => St.of [(13, gnV l), (14, lv (.int .i64 (l.length : Int))), (15, lv (.int .i64 (i.1 : Int)))] []) (fun i => l.length - i.1) (fun i => ?_) ⟨0, Nat.zero_le _, fun j hj => by omega⟩
 obtain ⟨i, hi, hu⟩ := i
 dsimp only
 by_cases hi2 : i < l.length
 · have hq : l.getD (i : Int).toNat default = l.getD i gn0 := rfl
   have hw := z4s _ (hb1 _ (z1s (d := gn0) hi2))
   by_cases ha : z0Q (l.getD i gn0) = true
   · rw [ha] at hw
     generalize hA : l.getD i gn0 = g at *
     obtain ⟨k, b, n⟩ := g
     repeat (first | refine nx ?_ | rw [hq])
     refine z0a ⟨i + 1, hi2, fun j hj => by
       by_cases e : j = i
       · subst e; rw [hA]; exact ha
       · exact hu j (by omega)⟩ (by dsimp only; omega) (St.le_of ⟨⟨rfl, rfl, rfl⟩, trivial⟩)
   · rw [z6L hi2 ha]
     rw [Bool.eq_false_iff.2 ha] at hw
     generalize hA : l.getD i gn0 = g at *
     obtain ⟨k, b, n⟩ := g
     repeat (first | refine nx ?_ | rw [hq])
     exact rt1 []
 · obtain rfl : i = l.length := by omega
   rw [z8o hu]
   repeat refine nx ?_
   exact rt1 []
theorem zc9 (r : List AtT) : z0F [r] = z0B r := by
 unfold z0F
 simp
structure WhB (w : WhT) : Prop where
 l : w.1.length ≤ 16000000
 g : ∀ g ∈ w.1, GnB g
 s : w.2.length ≤ 16000000
 a : ∀ a ∈ w.2, AtB a
theorem zdl (w : WhT) (h : WhB w) : Ct Tryz.prog 70 [lfV (whC w)] [] (lv (.bool (z6u w))) [] [] := by
 obtain ⟨g, r⟩ := w
 obtain ⟨h1, h2, h3, h4⟩ := h
 dsimp only at h1 h2 h3 h4
 have hg := zeT g h2 h1
 have hn1 := z4E [r] ⟨by simp, fun x hx => by rw [List.mem_singleton.1 hx]; exact ⟨h3, h4⟩⟩
 rw [zc9] at hn1
 have hml : (r.map atL).length = r.length := List.length_map ..
 have hgl : (gnR g).length = g.length := List.length_map ..
 unfold z6u
 dsimp only
 generalize z26 g = G at *
 generalize z0B r = S at *
 by_cases h0 : 0 < r.length
 · rw [if_pos h0]
   by_cases hg0 : g.length = 0
   · obtain rfl := List.eq_nil_of_length_eq_zero hg0
     refine z00 Tryz.func70 rfl rfl rfl rfl rfl (fun E hn hb => ?_)
     repeat (first | refine lgE hn ?_ | refine nx ?_)
     refine rt2 [] (congrArg (fun x => lv (.bool x)) ?_) trivial
     simp
   · refine z00 Tryz.func70 rfl rfl rfl rfl rfl (fun E hn hb => ?_)
     repeat (first | refine lgE hn ?_ | refine nx ?_)
     refine rt2 [] (congrArg (fun x => lv (.bool x)) ?_) trivial
     rw [hgl, show ((g.length : Int) == 0) = false by rw [beq_eq_false_iff_ne]; omega, decide_eq_false hg0]
     rfl
 · rw [if_neg h0]
   obtain rfl : r = [] := List.eq_nil_of_length_eq_zero (by omega)
   refine z00 Tryz.func70 rfl rfl rfl rfl rfl (fun E hn hb => ?_)
   repeat refine nx ?_
   exact rt1 []
abbrev ztl : Option WhT → Prop
 | none => True
 | some w => WhB w
end Go.Proofs.YtaagjnlkinojcaaGreat

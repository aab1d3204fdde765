/-
  Chapter 16's law PointMasks, walked: it returns true. The conditions: a row that a machine can hold.
-/
import Derived.Test.YtaagjnlkinojcaaGreatO6
import Derived.Test.YtaagjnlkinojcaaGreatC8
namespace Go.Proofs.YtaagjnlkinojcaaGreat
set_option linter.unusedSimpArgs false
set_option linter.unusedVariables false
open Go.Sx
set_option maxRecDepth 10000
theorem z1S (n : Int) (b : Bool) : Ct Tryz.prog 111 [lv (.int .i64 n), lv (.bool b)] [] (z2A (2, n, b)) [] [] := by
 refine z00 Tryz.func111 rfl rfl rfl rfl rfl (fun E hn hb => ?_)
 repeat refine nx ?_
 exact rt1 []
def isT (l : List Int) (p : Nat) (t : z0m) : Bool := decide ((z09 l p).2.2 = 0) && decide ((z09 l p).1.1 = t)
theorem z2H (l : List Int) (p : Nat) (t : z0m) (hp : p ≤ l.length) (hl : l.length ≤ 1000000) (hw : WfB l) : Ct Tryz.prog 110 [.c (.ptr 0 0), z2A t] [z04 l p] (lv (.bool (isT l p t))) [z04 l p] [] := by
 have hat := z1q l p
 have hrd := z7l l p hp hl hw
 have hle := z13 l p hp
 unfold isT
 generalize z09 l p = R at *
 obtain ⟨⟨u, n⟩, q, e⟩ := R
 dsimp only at *
 have hbk := z1x l q p hle.1 (by omega)
 obtain ⟨u1, u2, u3⟩ := u
 obtain ⟨t1, t2, t3⟩ := t
 by_cases he : e = 0
 · subst he
   obtain ⟨B, hB⟩ : ∃ B, (decide ((0 : Int) = 0) && decide ((u1, u2, u3) = (t1, t2, t3))) = B := ⟨_, rfl⟩
   rw [hB]
   refine z00 Tryz.func110 rfl rfl rfl rfl rfl (fun E hn hb => ?_)
   repeat refine nx ?_
   refine rt2 [] ?_ ?_
   · refine congrArg (fun x => lv (.bool x)) ?_
     rw [← hB]
     simp [z0U, Cell.kill, Cell.kill1, Bool.and_assoc]
     try rfl
   · trivial
 · rw [decide_eq_false he]
   refine z00 Tryz.func110 rfl rfl rfl rfl rfl (fun E hn hb => ?_)
   repeat refine nx ?_
   refine rt2 [] ?_ ?_
   · refine congrArg (fun x => lv (.bool x)) ?_
     simp [he]
   · trivial
abbrev zbo : Av := lv (.slice none 0 0)
abbrev zge : Av := lv (.pointer none)
theorem zgf (l : List Int) (p : Nat) (n : Int) (b : Bool) (g : Nat) (hp : p ≤ l.length) (hl : l.length ≤ 1000000) (hw : WfB l) (h : isT l p (2, n, b) = false) : Ct Tryz.prog 108 [.c (.ptr 0 0), lv (.int .i64 n), lv (.bool b), .c (.fn (.func g) [] [])] [z04 l p] (.tup [zge, lv (.int .i64 0)]) [z04 l p] [] := by
 have h1 := z1S n b
 have h2 := z2H l p (2, n, b) hp hl hw
 rw [h] at h2
 refine z00 Tryz.func108 rfl rfl rfl rfl rfl (fun E hn hb => ?_)
 repeat refine nx ?_
 exact rt1 []
theorem zgg (l : List Int) (p : Nat) (n : Int) (b : Bool) (g : Nat) (hp : p ≤ l.length) (hl : l.length ≤ 1000000) (hw : WfB l) (h : isT l p (2, n, b) = false) : Ct Tryz.prog 115 [.c (.ptr 0 0), lv (.int .i64 n), lv (.bool b), .c (.fn (.func g) [] [])] [z04 l p] (.tup [zbo, lv (.int .i64 0)]) [z04 l p] [] := by
 have h1 := z1S n b
 have h2 := z2H l p (2, n, b) hp hl hw
 rw [h] at h2
 refine z00 Tryz.func115 rfl rfl rfl rfl rfl (fun E hn hb => ?_)
 repeat refine nx ?_
 exact rt1 []
theorem zgh (l : List Int) (p : Nat) (n : Int) (b : Bool) (g : Nat) (hp : p ≤ l.length) (hl : l.length ≤ 1000000) (hw : WfB l) (h : isT l p (2, n, b) = false) : Ct Tryz.prog 112 [.c (.ptr 0 0), lv (.int .i64 n), lv (.bool b), .c (.fn (.func g) [] [])] [z04 l p] (.tup [zbo, lv (.int .i64 0)]) [z04 l p] [] := by
 have h1 := z1S n b
 have h2 := z2H l p (2, n, b) hp hl hw
 rw [h] at h2
 refine z00 Tryz.func112 rfl rfl rfl rfl rfl (fun E hn hb => ?_)
 repeat refine nx ?_
 exact rt1 []
theorem zgi (l : List Int) (p : Nat) (n : Int) (b : Bool) (g : Nat) (hp : p ≤ l.length) (hl : l.length ≤ 1000000) (hw : WfB l) (h : isT l p (2, n, b) = false) : Ct Tryz.prog 149 [.c (.ptr 0 0), lv (.int .i64 n), lv (.bool b), .c (.fn (.func g) [] [])] [z04 l p] (.tup [lv (.bool false), lv (.int .i64 0)]) [z04 l p] [] := by
 have h1 := z1S n b
 have h2 := z2H l p (2, n, b) hp hl hw
 rw [h] at h2
 refine z00 Tryz.func149 rfl rfl rfl rfl rfl (fun E hn hb => ?_)
 repeat refine nx ?_
 exact rt1 []
abbrev z28 (e : Int) : Blk := .cells [.ptr 1 0, .lf (.v (.int .i64 e))]
theorem z87 (l : List Int) (p : Nat) (n : Int) (b : Bool) (g : Nat) (hp : p ≤ l.length) (hl : l.length ≤ 1000000) (hw : WfB l) (h : isT l p (2, n, b) = false) : Ct Tryz.prog 51 [.c (.ptr 0 0), lv (.int .i64 n), lv (.bool b), .c (.fn (.func g) [] [])] [z28 0, z04 l p] zge [z28 0, z04 l p] [] := by
 have h1 := zgf l p n b g hp hl hw h
 refine z00 Tryz.func51 rfl rfl rfl rfl rfl (fun E hn hb => ?_)
 repeat refine nx ?_
 exact rt1 []
theorem z88 (l : List Int) (p : Nat) (n : Int) (b : Bool) (g : Nat) (hp : p ≤ l.length) (hl : l.length ≤ 1000000) (hw : WfB l) (h : isT l p (2, n, b) = false) : Ct Tryz.prog 53 [.c (.ptr 0 0), lv (.int .i64 n), lv (.bool b), .c (.fn (.func g) [] [])] [z28 0, z04 l p] zbo [z28 0, z04 l p] [] := by
 have h1 := zgg l p n b g hp hl hw h
 refine z00 Tryz.func53 rfl rfl rfl rfl rfl (fun E hn hb => ?_)
 repeat refine nx ?_
 exact rt1 []
theorem zgj (l : List Int) (p : Nat) (n : Int) (b : Bool) (g : Nat) (hp : p ≤ l.length) (hl : l.length ≤ 1000000) (hw : WfB l) (h : isT l p (2, n, b) = false) : Ct Tryz.prog 55 [.c (.ptr 0 0), lv (.int .i64 n), lv (.bool b), .c (.fn (.func g) [] [])] [z28 0, z04 l p] zbo [z28 0, z04 l p] [] := by
 have h1 := zgh l p n b g hp hl hw h
 refine z00 Tryz.func55 rfl rfl rfl rfl rfl (fun E hn hb => ?_)
 repeat refine nx ?_
 exact rt1 []
theorem z3J (l : List Int) (p : Nat) (n : Int) (b : Bool) (g : Nat) (hp : p ≤ l.length) (hl : l.length ≤ 1000000) (hw : WfB l) (h : isT l p (2, n, b) = false) : Ct Tryz.prog 90 [.c (.ptr 0 0), lv (.int .i64 n), lv (.bool b), .c (.fn (.func g) [] [])] [z28 0, z04 l p] (lv (.bool false)) [z28 0, z04 l p] [] := by
 have h1 := zgi l p n b g hp hl hw h
 refine z00 Tryz.func90 rfl rfl rfl rfl rfl (fun E hn hb => ?_)
 repeat refine nx ?_
 exact rt1 []
theorem zeM : Ct Tryz.prog 91 [.c (.ptr 0 0)] [z04 [255] 0] (.tup [lv (.bool true), lv (.int .i64 0)]) [z04 [255] 1] [] := by
 have h1 := z7D [255] 0 (by decide) (by decide)
 refine z00 Tryz.func91 rfl rfl rfl rfl rfl (fun E hn hb => ?_)
 repeat refine nx ?_
 exact rt1 []
theorem zeN (l : List Int) (p q : Nat) (n : Int) (b : Bool) (hp : p ≤ l.length) (hl : l.length ≤ 1000000) (hw : WfB l) (h : isT l p (2, n, b) = true) (ho : z0g l p (2, n, b) = ([255], q, 0)) : Ct Tryz.prog 149 [.c (.ptr 0 0), lv (.int .i64 n), lv (.bool b), .c (.fn (.func 91) [] [])] [z04 l p] (.tup [lv (.bool true), lv (.int .i64 0)]) [z04 l q] [] := by
 have h1 := z1S n b
 have h2 := z2H l p (2, n, b) hp hl hw
 rw [h] at h2
 have h3 := z1V l p (2, n, b) hp hl hw (by rw [ho])
 rw [ho] at h3
 have h4 := zeM
 have h5 := z0R [255] 1 (by decide) (by decide)
 dsimp only at h3
 refine z00 Tryz.func149 rfl rfl rfl rfl rfl (fun E hn hb => ?_)
 repeat refine nx ?_
 exact rt1 []
theorem zeO (l : List Int) (p q : Nat) (n : Int) (b : Bool) (hp : p ≤ l.length) (hl : l.length ≤ 1000000) (hw : WfB l) (h : isT l p (2, n, b) = true) (ho : z0g l p (2, n, b) = ([255], q, 0)) : Ct Tryz.prog 90 [.c (.ptr 0 0), lv (.int .i64 n), lv (.bool b), .c (.fn (.func 91) [] [])] [z28 0, z04 l p] (lv (.bool true)) [z28 0, z04 l q] [] := by
 have h1 := zeN l p q n b hp hl hw h ho
 refine z00 Tryz.func90 rfl rfl rfl rfl rfl (fun E hn hb => ?_)
 repeat refine nx ?_
 exact rt1 []
end Go.Proofs.YtaagjnlkinojcaaGreat

namespace Go.Proofs.YtaagjnlkinojcaaGreat
set_option linter.unusedSimpArgs false
set_option linter.unusedVariables false
open Go Go.Sx
set_option maxRecDepth 10000
def z4H (m : Nat) : List Int → Nat
 | [] => m
 | x :: l => z4H (if 0 ≤ x ∧ x ≤ 8 then m ||| 2 ^ x.toNat else m) l
theorem zcr : ∀ (l : List Int) (m : Nat), m < 512 → z4H m l < 512
 | [], m, h => h
 | x :: l, m, h => by
   rw [z4H]
   refine zcr l _ ?_
   split
   · rename_i hx
     have : 2 ^ x.toNat < 2 ^ 9 := Nat.pow_lt_pow_right (by decide) (by omega)
     exact Nat.or_lt_two_pow (n := 9) h this
   · exact h
abbrev IQ (l : List Int) : Av := .c (.lf (.ints .i64 l))
theorem orM : ∀ m : Fin 512, ∀ r : Fin 9, IntKind.i64.wrap (BitVec.ofInt IntKind.i64.bits ((m.val : Nat) : Int) ||| BitVec.ofInt IntKind.i64.bits (1 * 2 ^ min (((r.val : Nat) : Int).toNat) IntKind.i64.bits)).toNat = ((m.val ||| 2 ^ r.val : Nat) : Int) := by decide +kernel
theorem shM : ∀ r : Fin 9, IntKind.i64.wrap (1 * 2 ^ min (((r.val : Nat) : Int).toNat) IntKind.i64.bits) = 1 * 2 ^ min (((r.val : Nat) : Int).toNat) IntKind.i64.bits ∧ 1 * 2 ^ min (((r.val : Nat) : Int).toNat) IntKind.i64.bits = ((2 ^ r.val : Nat) : Int) ∧ 2 ^ r.val ≤ 256 := by decide +kernel
theorem z9V : ∀ (l : List Int) (m : Nat) (i : Nat), i < l.length → z4H m (l.take (i + 1)) = (if 0 ≤ l.getD i 0 ∧ l.getD i 0 ≤ 8 then z4H m (l.take i) ||| 2 ^ (l.getD i 0).toNat else z4H m (l.take i))
 | [], m, i, h => by simp at h
 | x :: l, m, 0, h => by simp [z4H]
 | x :: l, m, i + 1, h => by
   have := z9V l (if 0 ≤ x ∧ x ≤ 8 then m ||| 2 ^ x.toNat else m) i (by simpa using h)
   simpa [z4H] using this
set_option maxHeartbeats 4000000 in
theorem zhJ (l : List Int) (hl : l.length ≤ 1000000) : Ct Tryz.prog 12 [IQ l] [] (lv (.int .i64 ((z4H 0 l : Nat) : Int))) [] [] := by
 refine z00 Tryz.func12 rfl rfl rfl rfl rfl (fun E hn hb => ?_)
 repeat refine nx ?_
 refine z0a (St.le_of (l := [(3, lv (.int .i64 0)), (6, IQ l), (7, lv (.int .i64 (l.length : Int))), (8, lv (.int .i64 ((0 : Nat) : Int)))]) (h := []) (by refine ⟨?_, ?_⟩ <;> (repeat' (first | exact trivial | exact rfl | refine ⟨?_, ?_⟩)) <;> first | exact rfl | (simp; done) | skip)) ?_
 refine z0j (ι := {i : Nat // i ≤ l.length}) (fun i => St.of [(3, lv (.int .i64 ((z4H 0 (l.take i.1) : Nat) : Int))), (6, IQ l), (7, lv (.int .i64 (l.length : Int))), (8, lv (.int .i64 (i.1 : Int)))] []) (fun i => l.length - i.1) (fun i => ?_) ⟨0, by omega⟩
 obtain ⟨i, hi⟩ := i
 dsimp only
 by_cases hi2 : i < l.length
 · have hnx := z9V l 0 i hi2
   have hlt := zcr (l.take i) 0 (by decide)
   have hq : l.getD (i : Int).toNat 0 = l.getD i 0 := rfl
   generalize z4H 0 (l.take i) = m at *
   generalize l.getD i 0 = x at *
   by_cases hx : 0 ≤ x ∧ x ≤ 8
   · rw [if_pos hx] at hnx
     obtain ⟨r, rfl⟩ : ∃ r : Nat, x = r := ⟨x.toNat, by omega⟩
     obtain ⟨s1, s2, s3⟩ := shM ⟨r, by omega⟩
     have ho := orM ⟨m, hlt⟩ ⟨r, by omega⟩
     dsimp only at s1 s2 s3 ho
     rw [Int.toNat_natCast] at hnx
     repeat (first | refine nx ?_ | rw [hq])
     rw [ho, ← hnx]
     refine z06 ⟨i + 1, by omega⟩ (by dsimp only; omega) (St.le_of ⟨⟨rfl, rfl, rfl, rfl⟩, trivial⟩)
   · rw [if_neg hx] at hnx
     rcases Int.lt_or_le x 0 with h | h
     · repeat (first | refine nx ?_ | rw [hq])
       rw [← hnx]
       refine z06 ⟨i + 1, by omega⟩ (by dsimp only; omega) (St.le_of ⟨⟨rfl, rfl, rfl, rfl⟩, trivial⟩)
     · have h2 : 8 < x := by omega
       repeat (first | refine nx ?_ | rw [hq])
       rw [← hnx]
       refine z06 ⟨i + 1, by omega⟩ (by dsimp only; omega) (St.le_of ⟨⟨rfl, rfl, rfl, rfl⟩, trivial⟩)
 · obtain rfl : i = l.length := by omega
   rw [List.take_length]
   repeat refine nx ?_
   exact rt1 []
end Go.Proofs.YtaagjnlkinojcaaGreat

namespace Go.Proofs.YtaagjnlkinojcaaGreat
set_option linter.unusedSimpArgs false
set_option linter.unusedVariables false
open Go.Sx
set_option maxRecDepth 10000
theorem zdA {l : List Int} (h : (l.all fun x => decide (0 ≤ x) && decide (x < 256)) = true) : WfB l := fun x hx => by
 have := List.all_eq_true.1 h x hx
 simpa using this
abbrev poA : Av := .agg [.lf (.v (.pointer none)), .lf (.v (.slice none 0 0)), .lf (.v (.slice none 0 0))]
abbrev scA (u : Bool) : Av := .agg [.lf (.v (.pointer none)), .lf (.v (.bool u)), .lf (.v (.bool false)), .lf (.v (.bool false)), .lf (.v (.bool false)), .lf (.v (.slice none 0 0))]
theorem z9W : Ct Tryz.prog 86 [zge, zbo] [] (lv (.bool true)) [] [] := by
 refine z00 Tryz.func86 rfl rfl rfl rfl rfl (fun E hn hb => ?_)
 repeat (first | refine nx ?_ | refine wgF (lv (.bool false)) hn ?_)
 exact rt1 []
theorem zeP : Ct Tryz.prog 41 [poA] [] (lv (.bool false)) [] [] := by
 have h1 := z9W
 refine z00 Tryz.func41 rfl rfl rfl rfl rfl (fun E hn hb => ?_)
 repeat (first | refine nx ?_ | refine wgF (lv (.bool false)) hn ?_)
 exact rt1 []
abbrev bsR (l : List Bool) : Av := .c (.lf (.recs 1 (l.map fun b => [Leaf.v (.bool b)])))
def z3Z : List Bool → Nat
 | [] => 0
 | b :: l => (cond b 1 0) + z3Z l
theorem zbp : ∀ (l : List Bool) (i : Nat), i < l.length → z3Z (l.take (i + 1)) = z3Z (l.take i) + cond (l.getD i false) 1 0
 | [], i, h => by simp at h
 | b :: l, 0, h => by simp [z3Z]
 | b :: l, i + 1, h => by
   have := zbp l i (by simpa using h)
   simp only [List.take_succ_cons, z3Z, List.getD_cons_succ]
   omega
theorem zeQ : ∀ l : List Bool, z3Z l ≤ l.length
 | [] => by simp [z3Z]
 | b :: l => by
   have := zeQ l
   cases b <;> simp [z3Z] <;> omega
theorem zgk (l : List Bool) (hl : l.length ≤ 1000) : Ct Tryz.prog 85 [bsR l] [] (lv (.int .i64 (z3Z l : Int))) [] [] := by
 refine z00 Tryz.func85 rfl rfl rfl rfl rfl (fun E hn hb => ?_)
 repeat refine nx ?_
 rw [List.length_map]
 refine z0a (St.le_of (l := [(3, lv (.int .i64 0)), (6, bsR l), (7, lv (.int .i64 (l.length : Int))), (8, lv (.int .i64 ((0 : Nat) : Int)))]) (h := []) (by refine ⟨?_, ?_⟩ <;> (repeat' (first | exact trivial | exact rfl | refine ⟨?_, ?_⟩)) <;> first | exact rfl | (simp; done) | skip)) ?_
 refine z0j (ι := {i : Nat // i ≤ l.length}) (fun i => St.of [(3, lv (.int .i64 ((z3Z (l.take i.1) : Nat) : Int))), (6, bsR l), (7, lv (.int .i64 (l.length : Int))), (8, lv (.int .i64 (i.1 : Int)))] []) (fun i => l.length - i.1) (fun i => ?_) ⟨0, by omega⟩
 obtain ⟨i, hi⟩ := i
 dsimp only
 by_cases hi2 : i < l.length
 · have hnx := zbp l i hi2
   have hle := zeQ (l.take i)
   have hlt : (l.take i).length ≤ 1000 := by simp; omega
   have hq : l.getD (i : Int).toNat default = l.getD i false := rfl
   generalize z3Z (l.take i) = n at *
   generalize l.getD i false = b at *
   cases b with
   | true =>
     repeat (first | refine nx ?_ | rw [hq])
     refine z06 ⟨i + 1, by omega⟩ (by dsimp only; omega) (St.le_of ⟨⟨?_, rfl, rfl, rfl⟩, trivial⟩)
     dsimp only; rw [hnx]; rfl
   | false =>
     repeat (first | refine nx ?_ | rw [hq])
     refine z06 ⟨i + 1, by omega⟩ (by dsimp only; omega) (St.le_of ⟨⟨?_, rfl, rfl, rfl⟩, trivial⟩)
     dsimp only; rw [hnx]; rfl
 · obtain rfl : i = l.length := by omega
   rw [List.take_length]
   repeat refine nx ?_
   exact rt1 []
theorem z9X (u : Bool) : Ct Tryz.prog 32 [scA u] [] (lv (.bool u)) [] [] := by
 have h1 := z9W
 have h2 := zgk [u, false, false] (by simp)
 have h2 : Ct Tryz.prog 85 [.c (.lf (.recs 1 [[Leaf.v (.bool u)], [Leaf.v (.bool false)], [Leaf.v (.bool false)]]))] [] (lv (.int .i64 ((z3Z [u, false, false] : Nat) : Int))) [] [] := h2
 cases u with
 | true =>
   rw [show z3Z [true, false, false] = 1 from rfl] at h2
   refine z00 Tryz.func32 rfl rfl rfl rfl rfl (fun E hn hb => ?_)
   repeat (first | refine nx ?_ | refine wgF (lv (.bool false)) hn ?_)
   refine rt2 [] (congrArg (fun x => lv (.bool x)) ?_) trivial; (simp [z0U, Cell.kill, Cell.kill1])
 | false =>
   rw [show z3Z [false, false, false] = 0 from rfl] at h2
   refine z00 Tryz.func32 rfl rfl rfl rfl rfl (fun E hn hb => ?_)
   repeat (first | refine nx ?_ | refine wgF (lv (.bool false)) hn ?_)
   refine rt2 [] (congrArg (fun x => lv (.bool x)) ?_) trivial; (simp [z0U, Cell.kill, Cell.kill1])
theorem zgl : Ct Tryz.prog 50 [.c (.ptr 0 0)] [z28 0, z04 [] 0] poA [z28 0, z04 [] 0] [] := by
 have h1 := z87 [] 0 0 true 52 (by decide) (by decide) (fun x hx => by cases hx) (by decide +kernel)
 have h2 := z88 [] 0 1 false 54 (by decide) (by decide) (fun x hx => by cases hx) (by decide +kernel)
 have h3 := zgj [] 0 2 true 56 (by decide) (by decide) (fun x hx => by cases hx) (by decide +kernel)
 refine z00 Tryz.func50 rfl rfl rfl rfl rfl (fun E hn hb => ?_)
 repeat refine nx ?_
 exact rt1 []
theorem zhK : Ct Tryz.prog 49 [.c (.ptr 0 0), .c (.fn (.func 50) [] []), .c (.fn (.func 41) [] [])] [z04 [48, 0] 0] (.tup [poA, lv (.int .i64 6)]) [z04 [48, 0] 0] [] := by
 have ho : z0g [48, 0] 0 (ofT 16) = ([], 2, 0) := by decide +kernel
 have hw : WfB [48, 0] := zdA (by decide +kernel)
 have h0 := z1q [48, 0] 0
 have h1 := z1E 16
 have h2 := z1V [48, 0] 0 (ofT 16) (by decide) (by decide) hw (by rw [ho])
 rw [ho] at h2
 dsimp only at h2
 have h3 := zgl
 have h4 := z0R [] 0 (by decide) (by decide)
 have h5 := zeP
 have h6 := z1x [48, 0] 2 0 (by decide) (by decide)
 refine z00 Tryz.func49 rfl rfl rfl rfl rfl (fun E hn hb => ?_)
 repeat refine nx ?_
 exact rt1 []
theorem zml : Ct Tryz.prog 14 [.c (.ptr 0 0)] [z04 [48, 0] 0] (.tup [poA, lv (.int .i64 6)]) [z04 [48, 0] 0] [] := by
 have h1 := zhK
 refine z00 Tryz.func14 rfl rfl rfl rfl rfl (fun E hn hb => ?_)
 repeat refine nx ?_
 exact rt1 []
theorem zgm : Ct Tryz.prog 89 [.c (.ptr 0 0)] [z28 0, z04 [] 0] (scA false) [z28 0, z04 [] 0] [] := by
 have hw : WfB [] := fun x hx => by cases hx
 have h1 := z87 [] 0 0 true 52 (by decide) (by decide) hw (by decide +kernel)
 have h2 := z3J [] 0 1 false 91 (by decide) (by decide) hw (by decide +kernel)
 have h3 := z3J [] 0 2 false 91 (by decide) (by decide) hw (by decide +kernel)
 have h4 := z88 [] 0 3 false 54 (by decide) (by decide) hw (by decide +kernel)
 have h5 := z3J [] 0 4 false 91 (by decide) (by decide) hw (by decide +kernel)
 have h6 := z3J [] 0 5 false 91 (by decide) (by decide) hw (by decide +kernel)
 refine z00 Tryz.func89 rfl rfl rfl rfl rfl (fun E hn hb => ?_)
 repeat refine nx ?_
 exact rt1 []
theorem zhL : Ct Tryz.prog 88 [.c (.ptr 0 0), .c (.fn (.func 89) [] []), .c (.fn (.func 32) [] [])] [z04 [48, 0] 0] (.tup [scA false, lv (.int .i64 6)]) [z04 [48, 0] 0] [] := by
 have ho : z0g [48, 0] 0 (ofT 16) = ([], 2, 0) := by decide +kernel
 have hw : WfB [48, 0] := zdA (by decide +kernel)
 have h0 := z1q [48, 0] 0
 have h1 := z1E 16
 have h2 := z1V [48, 0] 0 (ofT 16) (by decide) (by decide) hw (by rw [ho])
 rw [ho] at h2
 dsimp only at h2
 have h3 := zgm
 have h4 := z0R [] 0 (by decide) (by decide)
 have h5 := z9X false
 have h6 := z1x [48, 0] 2 0 (by decide) (by decide)
 refine z00 Tryz.func88 rfl rfl rfl rfl rfl (fun E hn hb => ?_)
 repeat refine nx ?_
 exact rt1 []
theorem zmm : Ct Tryz.prog 34 [.c (.ptr 0 0)] [z04 [48, 0] 0] (.tup [scA false, lv (.int .i64 6)]) [z04 [48, 0] 0] [] := by
 have h1 := zhL
 refine z00 Tryz.func34 rfl rfl rfl rfl rfl (fun E hn hb => ?_)
 repeat refine nx ?_
 exact rt1 []
theorem zeR : Ct Tryz.prog 89 [.c (.ptr 0 0)] [z28 0, z04 [129, 1, 255] 0] (scA true) [z28 0, z04 [129, 1, 255] 3] [] := by
 have hw : WfB [129, 1, 255] := zdA (by decide +kernel)
 have h1 := z87 [129, 1, 255] 0 0 true 52 (by decide) (by decide) hw (by decide +kernel)
 have h2 := zeO [129, 1, 255] 0 3 1 false (by decide) (by decide) hw (by decide +kernel) (by decide +kernel)
 have h3 := z3J [129, 1, 255] 3 2 false 91 (by decide) (by decide) hw (by decide +kernel)
 have h4 := z88 [129, 1, 255] 3 3 false 54 (by decide) (by decide) hw (by decide +kernel)
 have h5 := z3J [129, 1, 255] 3 4 false 91 (by decide) (by decide) hw (by decide +kernel)
 have h6 := z3J [129, 1, 255] 3 5 false 91 (by decide) (by decide) hw (by decide +kernel)
 refine z00 Tryz.func89 rfl rfl rfl rfl rfl (fun E hn hb => ?_)
 repeat refine nx ?_
 exact rt1 []
theorem zgn : Ct Tryz.prog 88 [.c (.ptr 0 0), .c (.fn (.func 89) [] []), .c (.fn (.func 32) [] [])] [z04 [48, 3, 129, 1, 255] 0] (.tup [scA true, lv (.int .i64 0)]) [z04 [48, 3, 129, 1, 255] 5] [] := by
 have ho : z0g [48, 3, 129, 1, 255] 0 (ofT 16) = ([129, 1, 255], 5, 0) := by decide +kernel
 have hw : WfB [48, 3, 129, 1, 255] := zdA (by decide +kernel)
 have h0 := z1q [48, 3, 129, 1, 255] 0
 have h1 := z1E 16
 have h2 := z1V [48, 3, 129, 1, 255] 0 (ofT 16) (by decide) (by decide) hw (by rw [ho])
 rw [ho] at h2
 dsimp only at h2
 have h3 := zeR
 have h4 := z0R [129, 1, 255] 3 (by decide) (by decide)
 have h5 := z9X true
 refine z00 Tryz.func88 rfl rfl rfl rfl rfl (fun E hn hb => ?_)
 repeat refine nx ?_
 exact rt1 []
theorem zhM : Ct Tryz.prog 34 [.c (.ptr 0 0)] [z04 [48, 3, 129, 1, 255] 0] (.tup [scA true, lv (.int .i64 0)]) [z04 [48, 3, 129, 1, 255] 5] [] := by
 have h1 := zgn
 refine z00 Tryz.func34 rfl rfl rfl rfl rfl (fun E hn hb => ?_)
 repeat refine nx ?_
 exact rt1 []
theorem zdB : Ct Tryz.prog 11 [] [] (lv (.bool true)) [] [] := by
 have h1 := z2M [48, 0] (by decide)
 have h2 := z2M [48, 3, 129, 1, 255] (by decide)
 have h3 := zml
 have h5 := zhM
 have h4 := zmm
 have h6 := zhJ [1, 8] (by decide)
 rw [show z4H 0 [1, 8] = 258 from by decide] at h6
 refine z00 Tryz.func11 rfl rfl rfl rfl rfl (fun E hn hb => ?_)
 repeat refine nx ?_
 refine z0n [85] h5 rfl rfl (by rw [hn]; rfl) rfl rfl (by trivial) ⟨rfl, rfl, (by simp [z0i]), rfl⟩ ?_
 repeat (first | refine nx ?_ | refine z4q rfl rfl ?_)
 refine rt2 [] (congrArg (fun x => lv (.bool x)) ?_) trivial; (simp [z0U, Cell.kill, Cell.kill1])

theorem lgE {P : Go.Program} {E : Env} {ops : Array Go.Oper} {Q : Go.Exit → Go.Act → Go.World → Prop} {rest : List Go.Oper} {o : Go.Oper} {σ : St} {t e : Go.TypeId} {sz by_ n s nt : Nat} {parts : Array (Nat × Go.Operand)} {ps : List Prop} {out : List Cell} {d : Leaf} {dd : Option Nat} {i : Nat} {g G : Bool} (hn : E.n = nt) (hk : WL P E ops Q rest (σ.put dd (.cnd G (.c (.lf d))))) (hop : o.op = .buildSlice t n parts := by exact rfl) (hg : o.guard = some (i, g) := by exact rfl) (hG : z0P ops σ i g = some G := by exact rfl) (hdf : z0d o.dst some = some dd := by exact rfl) (hd : z0b nt dd = true := by exact rfl)
   (hE : Elt P t e sz by_ := by exact z0k rfl rfl rfl) (hs : z2o sz some = some s := by exact rfl) (hf : z1l (fun i => some (i * s, s)) (List.replicate (n * s) .un) (parts.toList.map fun (i, x) => (i, ox σ x)) = some (ps, out) := by exact rfl) (hdd : z2N (z2c P e s n out) some = some d := by exact rfl) (hnn : n * s ≤ 16777216 ∧ n ≤ 16777216 ∧ z0c d = n ∧ szD d = s := by exact ⟨by decide, by decide, rfl, rfl⟩)
   (hz : z01 P e := by first | (simp; done) | fail) (hp : G = true → z03 ps := by intro hG; first | trivial | exact hG | (simp; done)) : WL P E ops Q (o :: rest) σ := by
 obtain rfl := z1Q hs
 simp only [z0h, Option.some.injEq] at hdf
 subst hdf
 exact z0K (z3q hg hG fun hh => z7i hop hE hz hf (hp hh) (z2n hdd) hnn) (by rw [hn]; exact hd) hk
end Go.Proofs.YtaagjnlkinojcaaGreat

/-
  Chapter 02, the document's answer: tags, lengths, contents. The conditions: rows of at most a million bytes.
-/
import Derived.Test.YtohfhephkjihfaaDoorW10
namespace Go.Proofs.YtohfhephkjihfaaDoor
set_option linter.unusedSimpArgs false
set_option linter.unusedVariables false
open Go.Sx
set_option maxRecDepth 10000
def valA : Int → List Int → Int
 | c, [] => c
 | c, x :: l => valA (256 * c + x) l
theorem wf_tail {x : Int} {l : List Int} (h : WfB (x :: l)) : WfB l := fun y hy => h y (List.mem_cons_of_mem _ hy)
def decL (n : Nat) : List Int := if h : n = 0 then [] else (48 + ((n % 10 : Nat) : Int)) :: decL (n / 10)
termination_by n
decreasing_by omega
theorem decL_zero : decL 0 = [] := by rw [decL]; simp
theorem decL_pos {n : Nat} (h : n ≠ 0) : decL n = (48 + ((n % 10 : Nat) : Int)) :: decL (n / 10) := by rw [decL]; simp [h]
theorem decL_len : ∀ (k n : Nat), n < 10 ^ k → (decL n).length ≤ k
 | 0, n, h => by
   have : n = 0 := by simpa using h
   subst this; rw [decL_zero]; simp
 | k + 1, n, h => by
   by_cases h0 : n = 0
   · subst h0; rw [decL_zero]; simp
   · rw [decL_pos h0]
     have : n / 10 < 10 ^ k := by rw [Nat.pow_succ] at h; omega
     have := decL_len k (n / 10) this
     simp; omega

theorem str_list (a : List Int) : (strOfNums a).toList = a.map fun n => UInt8.ofNat n.toNat := by
 rw [ByteArray.toList_eq]
 rfl
theorem byte_string_eq (a b : List Int) (ha : WfB a) (hb : WfB b) : ((strOfNums a).toList == (strOfNums b).toList) = decide (a = b) := by
 rw [str_list, str_list, Bool.eq_iff_iff]
 simp only [beq_iff_eq, decide_eq_true_eq]
 refine ⟨fun h => ?_, fun h => by rw [h]⟩
 induction a generalizing b with
 | nil => cases b with
   | nil => rfl
   | cons y b => cases h
 | cons x a ih => cases b with
   | nil => cases h
   | cons y b =>
     simp only [List.map_cons, List.cons.injEq] at h
     have hx := ha x (List.mem_cons_self ..)
     have hy := hb y (List.mem_cons_self ..)
     have e := congrArg UInt8.toNat h.1
     rw [UInt8.toNat_ofNat', UInt8.toNat_ofNat'] at e
     have : x = y := by omega
     rw [this, ih b (wf_tail ha) (wf_tail hb) h.2]

def numP (b : List Int) : Nat → Nat → Int → Int × Nat × Int
 | 0, p, _ => if p < b.length then (0, p + 1, 4) else (0, p, 3)
 | k + 1, p, n =>
   if p < b.length then
     if k = 2 ∧ b.getD p 0 = 128 then (0, p + 1, 4)
     else if b.getD p 0 < 128 then
       if 128 * n + b.getD p 0 % 128 < 31 then (0, p + 1, 4) else (128 * n + b.getD p 0 % 128, p + 1, 0)
     else numP b k (p + 1) (128 * n + b.getD p 0 % 128)
   else (0, p, 3)
def keepP {α : Type} (z : α) (p : Nat) (r : α × Nat × Int) : α × Nat × Int := if r.2.2 = 0 then r else (z, p, r.2.2)
def longP (b : List Int) (p n : Nat) : Int × Nat × Int :=
 if b.length < p + n then (0, p, 3)
 else if b.getD p 0 = 0 ∨ valA 0 ((b.drop p).take n) < 128 then (0, p + n, 5)
 else if 16777216 < valA 0 ((b.drop p).take n) then (0, p + n, 2)
 else (valA 0 ((b.drop p).take n), p + n, 0)
def rawL (b : List Int) (p : Nat) : Int × Nat × Int :=
 if p < b.length then
   if b.getD p 0 < 128 then (b.getD p 0, p + 1, 0)
   else if b.getD p 0 = 128 ∨ 132 < b.getD p 0 then (0, p + 1, 5)
   else longP b (p + 1) (b.getD p 0 % 128).toNat
 else (0, p, 3)
def lenP (b : List Int) (p : Nat) : Int × Nat × Int := keepP 0 p (rawL b p)
structure NS where
 i : Nat
 p : Nat
 n : Int
def NS.ok (l : List Int) (p : Nat) (s : NS) : Prop := s.i ≤ 3 ∧ s.p ≤ l.length ∧ numP l (3 - s.i) s.p s.n = numP l 3 p 0 ∧ 0 ≤ s.n ∧ (s.i = 0 ∧ s.n < 1 ∨ s.i = 1 ∧ s.n < 128 ∨ s.i = 2 ∧ s.n < 16384 ∨ s.i = 3 ∧ s.n < 2097152)

structure RS where
 i : Nat
 n : Int
def RS.ok (l : List Int) (p : Nat) (s : RS) : Prop := s.i ≤ 3 ∧ p + 1 + s.i ≤ l.length ∧ numP l (3 - s.i) (p + 1 + s.i) s.n = numP l 3 (p + 1) 0 ∧ 0 ≤ s.n ∧ (s.i = 0 ∧ s.n < 1 ∨ s.i = 1 ∧ s.n < 128 ∨ s.i = 2 ∧ s.n < 16384 ∨ s.i = 3 ∧ s.n < 2097152)
end Go.Proofs.YtohfhephkjihfaaDoor

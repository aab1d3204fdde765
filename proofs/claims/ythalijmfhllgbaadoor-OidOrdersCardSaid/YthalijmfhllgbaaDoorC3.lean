/-
  Chapter 02: tags and lengths that are read, in plain words; the number of a tag. The conditions: rows of at most a million bytes.
-/
import Derived.Test.YthalijmfhllgbaaDoorC2
import Derived.Test.YthalijmfhllgbaaDoorW16
namespace Go.Proofs.YthalijmfhllgbaaDoor
set_option linter.unusedSimpArgs false
set_option linter.unusedVariables false
open Go.Sx

set_option maxRecDepth 10000

/-- The number of a tag in digits: what it is, where the cursor stands, the error; so many more rounds may be. -/
def numP (b : List Int) : Nat → Nat → Int → Int × Nat × Int
  | 0, p, _ => if p < b.length then (0, p + 1, 4) else (0, p, 3)
  | k + 1, p, n =>
    if p < b.length then
      if k = 2 ∧ b.getD p 0 = 128 then (0, p + 1, 4)
      else if b.getD p 0 < 128 then
        if 128 * n + b.getD p 0 % 128 < 31 then (0, p + 1, 4) else (128 * n + b.getD p 0 % 128, p + 1, 0)
      else numP b k (p + 1) (128 * n + b.getD p 0 % 128)
    else (0, p, 3)
/-- With an error the cursor stays. -/
def keepP {α : Type} (z : α) (p : Nat) (r : α × Nat × Int) : α × Nat × Int := if r.2.2 = 0 then r else (z, p, r.2.2)
/-- A length of n bytes. -/
def longP (b : List Int) (p n : Nat) : Int × Nat × Int :=
  if b.length < p + n then (0, p, 3)
  else if b.getD p 0 = 0 ∨ valA 0 ((b.drop p).take n) < 128 then (0, p + n, 5)
  else if 16777216 < valA 0 ((b.drop p).take n) then (0, p + n, 2)
  else (valA 0 ((b.drop p).take n), p + n, 0)
def rawL (b : List Int) (p : Nat) : Int × Nat × Int :=
  if p < b.length then
    if b.getD p 0 < 128 then (b.getD p 0, p + 1, 0)
    else if b.getD p 0 = 128 ∨ 132 < b.getD p 0 then (0, p + 1, 5)
    else longP b (p + 1) (b.getD p 0 % 128).toNat
  else (0, p, 3)
/-- The length at a place, the place behind it, the error. -/
def lenP (b : List Int) (p : Nat) : Int × Nat × Int := keepP 0 p (rawL b p)
structure NS where
  i : Nat
  p : Nat
  n : Int
def NS.ok (l : List Int) (p : Nat) (s : NS) : Prop := s.i ≤ 3 ∧ s.p ≤ l.length ∧ numP l (3 - s.i) s.p s.n = numP l 3 p 0 ∧ 0 ≤ s.n ∧ (s.i = 0 ∧ s.n < 1 ∨ s.i = 1 ∧ s.n < 128 ∨ s.i = 2 ∧ s.n < 16384 ∨ s.i = 3 ∧ s.n < 2097152)

end Go.Proofs.YthalijmfhllgbaaDoor

/-
  Outcomes of pure operations in plain form, so that states stay readable; whole numbers that fit. No condition.
-/
import Derived.Test.YtppmfjopokkhmaaSxP
namespace Go.Sx
open Go
set_option linter.unusedVariables false

section
variable {R : Type}
def forceL : List Prop → (List Prop → R) → R
  | [], k => k []
  | p :: ps, k => forceL ps (fun ps => k (p :: ps))
def forceV (x : Value) (k : Value → R) : R :=
  match x with
  | .int kd n => k (.int kd n)
  | .bool b => k (.bool b)
  | .string s => k (.string s)
  | x => k x
def forceLf (x : Leaf) (k : Leaf → R) : R :=
  match x with
  | .v x => forceV x fun x => k (.v x)
  | .ints kd l => k (.ints kd l)
  | .recs sz l => k (.recs sz l)
  | .obj cs => k (.obj cs)
def forceC (x : Cell) (k : Cell → R) : R :=
  match x with
  | .lf x => forceLf x fun x => k (.lf x)
  | .own j sz off len => k (.own j sz off len)
  | .ptr j off => k (.ptr j off)
  | x => k x
def forceA1 (x : Av) (k : Av → R) : R :=
  match x with
  | .c x => forceC x fun x => k (.c x)
  | .agg xs => k (.agg xs)
  | .ai kd l => k (.ai kd l)
  | x => k x
def forceA (x : Av) (k : Av → R) : R :=
  match x with
  | .cnd g x => forceA1 x fun x => k (.cnd g x)
  | x => forceA1 x k
theorem forceL_eq : ∀ (ps : List Prop) (k : List Prop → R), forceL ps k = k ps
  | [], k => rfl
  | p :: ps, k => forceL_eq ps _
theorem forceV_eq (x : Value) (k : Value → R) : forceV x k = k x := by cases x <;> rfl
theorem forceLf_eq (x : Leaf) (k : Leaf → R) : forceLf x k = k x := by cases x <;> first | rfl | simp only [forceLf, forceV_eq]
theorem forceC_eq (x : Cell) (k : Cell → R) : forceC x k = k x := by cases x <;> first | rfl | simp only [forceC, forceLf_eq]
theorem forceA1_eq (x : Av) (k : Av → R) : forceA1 x k = k x := by cases x <;> first | rfl | simp only [forceA1, forceC_eq]
theorem forceA_eq (x : Av) (k : Av → R) : forceA x k = k x := by cases x <;> first | rfl | simp only [forceA, forceA1_eq]
end

def forceO {R : Type} (x : Option Nat) (k : Option Nat → R) : R :=
  match x with
  | some d => k (some d)
  | none => k none
theorem forceO_eq {R : Type} (x : Option Nat) (k : Option Nat → R) : forceO x k = k x := by cases x <;> rfl

def norm (d : Option Nat) : Option (List Prop × Av) → Option (Option Nat × List Prop × Av)
  | some (ps, x) => forceO d fun d => forceL ps fun ps => forceA x fun x => some (d, ps, x)
  | none => none
theorem norm_eq {d d' : Option Nat} {r : Option (List Prop × Av)} {ps : List Prop} {x : Av} (h : norm d r = some (d', ps, x)) : r = some (ps, x) ∧ d' = d := by
  cases r with
  | none => cases h
  | some r =>
    obtain ⟨qs, y⟩ := r
    simp only [norm, forceL_eq, forceA_eq, forceO_eq, Option.some.injEq, Prod.mk.injEq] at h
    obtain ⟨rfl, rfl, rfl⟩ := h
    exact ⟨rfl, rfl⟩
def forceG (b : Bool) : Option Bool → Option Bool
  | some G => match b with
    | true => some G
    | false => some G
  | none => none

section
variable {P : Program} {E : Env} {ops : Array Oper} {Q : Exit → Act → World → Prop} {rest : List Oper} {o : Oper} {σ : St}
theorem sp (nw : Bool) {d : Option Nat} {ps : List Prop} {x : Av} (hg : o.guard = none) (h : norm o.dst (pureOp nw P σ o) = some (d, ps, x)) (hd : dstOk E.n d = true) (hp : AllP ps) (hk : WL P E ops Q rest (σ.put d x)) :
    WL P E ops Q (o :: rest) σ := by
  obtain ⟨h1, h2⟩ := norm_eq h
  subst h2
  exact s_pure nw h1 hg hd hp hk

/-- Whether a guarded operation is carried out, in plain form. -/
def guardC (ops : Array Oper) (σ : St) (i : Nat) (b : Bool) : Option Bool :=
  match (ops[i]?).bind (·.dst) with
  | some d =>
    match σ.tm d with
    | .c (.lf (.v (.bool y))) => match b with | true => some y | false => some (!y)
    | .cnd g (.c (.lf (.v (.bool y)))) => match b with | true => some (g && y) | false => some (g && !y)
    | _ => none
  | none => none
theorem guardC_eq {i : Nat} {b G : Bool} (h : guardC ops σ i b = some G) : guardB ops σ i b = some G := by
  have : guardC ops σ i b = guardB ops σ i b := by
    cases b <;> rfl
  rw [← this]; exact h
theorem sg (nw : Bool) {i : Nat} {b G : Bool} {d : Option Nat} {ps : List Prop} {x : Av} (hg : o.guard = some (i, b)) (hG : guardC ops σ i b = some G) (h : norm o.dst (pureOp nw P σ o) = some (d, ps, x)) (hd : dstOk E.n d = true)
    (hp : G = true → AllP ps) (hk : WL P E ops Q rest (σ.put d (.cnd G x))) : WL P E ops Q (o :: rest) σ := by
  obtain ⟨h1, h2⟩ := norm_eq h
  subst h2
  exact s_pureG nw hg (guardC_eq hG) h1 hd hp hk
end

@[simp] theorem allP_nil : AllP [] ↔ True := Iff.rfl
@[simp] theorem allP_one (p : Prop) : AllP [p] ↔ p := Iff.rfl
@[simp] theorem allP_cons (p q : Prop) (ps : List Prop) : AllP (p :: q :: ps) ↔ p ∧ AllP (q :: ps) := Iff.rfl

@[simp] theorem wrap_i64 (n : Int) : IntKind.i64.wrap n = n ↔ -9223372036854775808 ≤ n ∧ n < 9223372036854775808 := by
  simp only [IntKind.wrap, IntKind.signed, IntKind.bits]; constructor <;> intro h <;> simp at * <;> omega
@[simp] theorem wrap_u8 (n : Int) : IntKind.u8.wrap n = n ↔ 0 ≤ n ∧ n < 256 := by
  simp only [IntKind.wrap, IntKind.signed, IntKind.bits]; constructor <;> intro h <;> simp at * <;> omega
@[simp] theorem wrap_u32 (n : Int) : IntKind.u32.wrap n = n ↔ 0 ≤ n ∧ n < 4294967296 := by
  simp only [IntKind.wrap, IntKind.signed, IntKind.bits]; constructor <;> intro h <;> simp at * <;> omega
@[simp] theorem wrap_u64 (n : Int) : IntKind.u64.wrap n = n ↔ 0 ≤ n ∧ n < 18446744073709551616 := by
  simp only [IntKind.wrap, IntKind.signed, IntKind.bits]; constructor <;> intro h <;> simp at * <;> omega
@[simp] theorem wrap_i32 (n : Int) : IntKind.i32.wrap n = n ↔ -2147483648 ≤ n ∧ n < 2147483648 := by
  simp only [IntKind.wrap, IntKind.signed, IntKind.bits]; constructor <;> intro h <;> simp at * <;> omega
end Go.Sx

/-
  The layer's latter part: drawn regions that hold one row of their own: a call makes it, an append takes it over. No condition.
-/
import Derived.Test.YtppmfjopokkhmaaSxR
namespace Go.Sx
open Go
set_option linter.unusedVariables false
set_option linter.unusedSimpArgs false

section
variable {P : Program} {E : Env} {ops : Array Oper} {Q : Exit → Act → World → Prop} {rest : List Oper} {o : Oper} {σ : St} {x : Av}

/-- An operation leads from one state into another. -/
def OpT (P : Program) (E : Env) (ops : Array Oper) (o : Oper) (σ σ' : St) : Prop := ∀ a w, SR E σ a w → ∀ (K : Act → World → Prop) (Q : Exit → Act → World → Prop), (∀ a' w', SR E σ' a' w' → K a' w') →
  if Region.wanted o (yielded ops a.tmps) then o.wp P a w K Q ∨ (o.asks P a w ∧ LetsOut Q) else K (a.put o.dst undef) w

theorem OpT.weaken {σ' τ : St} (h : OpT P E ops o σ σ') (hw : ∀ a w, SR E σ' a w → SR E τ a w) : OpT P E ops o σ τ := fun a w hS K Q hK => h a w hS K Q fun a' w' h => hK a' w' (hw a' w' h)

/-! One row of the region's own: operation c makes it, operation u takes it over. -/
end
end Go.Sx

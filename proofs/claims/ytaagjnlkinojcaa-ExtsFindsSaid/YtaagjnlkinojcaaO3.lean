/-
  Chapter 04, its smaller functions. The conditions: rows of at most a million numbers.
-/
import Derived.Test.YtaagjnlkinojcaaC1
import Derived.Lib.Builder
import Derived.Lib.AppendStr
import Derived.Lib.UnsafeStr
import Derived.Laws.Externs
import Derived.Test.YtaagjnlkinojcaaTy
namespace Go.Sx
open Go
set_option linter.unusedVariables false
set_option linter.unusedSimpArgs false
section
variable {P : Program} {E : Env} {ops : Array Oper} {Q : Exit → Act → World → Prop} {rest : List Oper} {o : Oper} {σ : St}
theorem SRb.one {β : Nat → Option Nat} {F : Nat → Prop} {a : Act} {w w' : World} {d : Nat} {x : Av} {v : Value} (h : SRb E β F σ a w) (hd : d < E.n) (hx : AvR (fun _ => none) (fun _ => False) w' x v) (hpl : plainA x = true) (hk : Keep E.w0 E.M w')
   (hsz : w.heap.size ≤ w'.heap.size) : SR E (St.of [(d, x)] []) (a.put (some d) v) w' := by
 refine ⟨fun i => if i < E.nb then E.β0 i else none, fun _ => False, fun i => ?_, by simpa [Act.put] using h.sz, h.df, fun j => ?_, fun i j g hi => ?_, fun i g hi => ?_, fun i g e => ?_, fun b hb => hb.elim, hk, fun i hi => if_pos hi, h.nbl⟩
 · have hlt : d < a.tmps.size := by rw [h.sz]; exact hd
   by_cases hi : i = d
   · subst hi
     have := plainA_any (β' := fun i => if i < E.nb then E.β0 i else none) (F' := fun _ => False) (w' := w') hpl hx
     simpa [St.of, look, Act.put, hlt] using this
   · have : (St.of [(d, x)] []).tm i = .c .un := by
       simp only [St.of, look]
       split
       · rename_i e; exact absurd (Nat.eq_of_beq_eq_true e) hi
       · rfl
     rw [this]
     exact .any _
 · exact trivial
 · exact absurd rfl hi
 · exact absurd rfl hi
 · by_cases hi : i < E.nb
   · rw [if_pos hi] at e
     have := h.lt i g (by rw [h.bb i hi]; exact e)
     omega
   · rw [if_neg hi] at e; cases e
end
end Go.Sx

namespace Go.Proofs.Ytaagjnlkinojcaa
set_option linter.unusedSimpArgs false
set_option linter.unusedVariables false
open Go.Sx
set_option maxRecDepth 10000
abbrev I64 (l : List Int) : Av := .c (.lf (.ints .i64 l))
end Go.Proofs.Ytaagjnlkinojcaa

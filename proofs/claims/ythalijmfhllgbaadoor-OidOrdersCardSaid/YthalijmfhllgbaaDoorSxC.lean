/-
  The layer's latter part: rows frozen in a struct's cell, calls that are lent data and yield a new row as data, structs compared. No condition.
-/
import Derived.Test.YthalijmfhllgbaaDoorSxK
import Derived.Laws.StructEq
import Derived.Scope
namespace Go.Sx
open Go
set_option linter.unusedVariables false
set_option linter.unusedSimpArgs false

/-- The ghost step, told with its parts. -/
theorem SRb.freeze0 {E : Env} {β : Nat → Option Nat} {F : Nat → Prop} {σ : St} {a : Act} {w : World} (h : SRb E β F σ a w) {j : Nat} {d : Leaf} (hj : σ.hp j = .row d) (hjn : E.nb ≤ j) (hl : ∀ i, i < E.nb → σ.hp i ≠ .gone) :
    SRb E (fun i => if i = j then none else β i) (fun b => F b ∨ β j = some b) (σ.kill j) a w := by
  have hgone : σ.hp j ≠ .gone := by rw [hj]; intro h; cases h
  have hB := h.hp j
  rw [hj] at hB
  let β' : Nat → Option Nat := fun i => if i = j then none else β i
  let F' : Nat → Prop := fun b => F b ∨ β j = some b
  have hβ : ∀ i, i ≠ j → β' i = β i := fun i hi => if_neg hi
  have hk := h.kill j hjn
  have hF : ∀ b, F b → F' b := fun b hb => .inl hb
  -- the state with the block gone, in the greater F
  have hk2 : SRb E β' F' (σ.kill j) a w := by
    refine ⟨fun i => (hk.tm i).mono (fun _ _ h => h) (fun b hb => ⟨hF b hb, rfl⟩) (fun _ _ h => h), hk.sz, hk.df, fun i => ?_, hk.inj, fun i g hi e => ?_, hk.lt, fun b hb => ?_, hk.keep, hk.bb, hk.nbl⟩
    · have := hk.hp i
      revert this
      cases (σ.kill j).hp i with
      | gone => exact fun _ => trivial
      | cells cs =>
        rintro ⟨g, cur, e1, e2, e3, e4⟩
        exact ⟨g, cur, e1, e2, e3, fun i x v hx hv => (e4 i x v hx hv).mono (fun _ _ h => h) (fun b hb => ⟨hF b hb, rfl⟩) (fun _ _ h => h)⟩
      | row d =>
        cases d with
        | ints k l => exact fun h => h
        | recs sz l =>
          rintro ⟨e1, e2⟩
          refine ⟨e1, ?_⟩
          rcases e2 with e2 | ⟨g, cur, e2, e3, e4⟩
          · exact .inl e2
          · refine .inr ⟨g, cur, e2, e3, fun i r k x hi hk => ?_⟩
            obtain ⟨u, hu, hl⟩ := e4 i r k x hi hk
            exact ⟨u, hu, hl.mono fun b hb => ⟨hF b hb, rfl⟩⟩
        | v => exact fun h => h
        | obj => exact fun h => h
    · obtain ⟨a1, a2, a3⟩ := hk.own i g hi e
      refine ⟨a1, a2, ?_⟩
      rintro (hf | hf)
      · exact a3 hf
      · have e : (if i = j then none else β i) = some g := e
        by_cases hij : i = j
        · simp [hij] at e
        · simp only [hij, if_false] at e
          have hi' : σ.hp i ≠ .gone := by
            simp only [St.kill, hij, decide_false] at hi
            exact Blk.kill_ne hi
          exact hij (h.inj i j g hi' hgone e hf)
    · rcases hb with hb | hb
      · exact h.fr b hb
      · obtain ⟨a1, a2, a3⟩ := h.own j b hgone hb
        refine ⟨a1, ?_⟩
        rcases a2 with a2 | a2
        · exact .inr a2
        · obtain ⟨i, hi, e⟩ := E.hM b a2
          have e' := h.bb i hi
          rw [e] at e'
          have := h.inj i j b (hl i hi) hgone e' hb
          omega
  exact hk2

section
variable {P : Program} {E : Env} {ops : Array Oper} {Q : Exit → Act → World → Prop} {rest : List Oper} {o : Oper} {σ : St} {x : Av}
/-- A row that a struct's cell holds turns into data. -/
theorem SR.freezeC {a : Act} {w : World} (j K : Nat) {d : Leaf} {cs cs' : List Cell} (hj : σ.hp j = .row d) (hK : σ.hp K = .cells cs) (hne : Nat.beq K j = false) (hjn : E.nb ≤ j) (hl : ∀ i, i < E.nb → σ.hp i ≠ .gone) (hf : FrzCs d j cs cs') (h : SR E σ a w) :
    SR E ((σ.kill j).seth K (.cells cs')) a w := by
  obtain ⟨β, F, h⟩ := h
  have hKj : K ≠ j := fun e => by rw [e] at hne; simp at hne
  have h0 := h.freeze0 hj hjn hl
  have hB := h.hp j
  rw [hj] at hB
  have hC := h.hp K
  rw [hK] at hC
  obtain ⟨g, cur, e1, e2, e3, e4⟩ := hC
  obtain ⟨h1, h2⟩ := hf.get
  refine ⟨_, _, h0.setBlk ?_ ⟨g, cur, (if_neg hKj).trans e1, e2, by omega, fun i c' v hc hv => ?_⟩⟩
  · show (match decide (K = j) with | true => Blk.gone | false => (σ.hp K).kill j) ≠ .gone
    simp only [hKj, decide_false, hK]
    intro h; cases h
  · obtain ⟨c, hc2, hfc⟩ := h2 i c' hc
    exact hfc.sound (β' := fun i => if i = j then none else β i) (F' := fun b => F b ∨ β j = some b) hB (fun g hg => .inr hg) (fun b hb => .inl hb) (fun i hi => if_neg hi) (e4 i c v hc2 hv)

/-! Structs of numbers and bools, compared. -/
end
end Go.Sx

/-
  From a contract to the statement's last step: what came in, as data; what the call leaves. No condition.
-/
import Derived.Test.YtppmfjopokkhmaaSxX
import Derived.WalkKit
import Derived.ProofKit
import Derived.OpenShut
import Derived.ShutString
import Derived.ChangeOld
import Derived.Below
import Derived.Lib.SmallJoins
namespace Go.Sx
open Go
open Go.ChangeShapes Go.WideShapes Go.ChangeAt Go.RowKit Go.Joins Go.Deep
set_option linter.unusedVariables false

/-- All that was there. -/
abbrev Was (w : World) : Nat → Prop := fun b => b < w.heap.size

theorem cell_in {w : World} {a : Addr} {v : Value} (h : w.cell? a = some v) : a.block < w.heap.size ∧ a.spot = none := by
  unfold World.cell? at h
  split at h
  · rename_i c e m hb
    refine ⟨(Array.getElem?_eq_some_iff.1 hb).1, ?_⟩
    split at h
    · cases h
    · rename_i hs; simpa using hs
  · cases h

section
variable {H : Type} {enc : TypeId × Value → H} {P : Program} {w : World} {base : Nat} {spare : Nat → Bool} {held : Bool} {fuel : Nat}

theorem open_row {t e : TypeId} {k : IntKind} {v : Value} {x : DataW H × List MemPlace} (ht : P.underlying t = some (.slice e)) (he : P.underlying e = some (.int k)) (hc : P.cellsOf e = 1)
    (h : DataW.trod enc P w base spare held fuel t [v] = some x) : ∃ l : List Int, l.length ≤ 9223372036854775807 ∧ (∀ n ∈ l, (Lit.int k n).wf = true) ∧ LfR (Was w) w (.ints k l) v := by
  rcases open_ints ht he hc h with ⟨hcs, _⟩ | ⟨a, len, cap, zs, hcs, _, hl, hm, hz, _, hcell, hw⟩
  · simp at hcs
    subst hcs
    refine ⟨[], Nat.zero_le _, ?_, LfR.ints _ _ _ _ _ rfl (Nat.le_refl _) (Nat.zero_le _) (fun h => absurd rfl h)⟩
    intro n hn
    cases hn
  · simp at hcs
    subst hcs
    have hlz : len ≤ zs.length := by rw [hz]; split <;> omega
    have hlt : (zs.take len).length = len := by simp; omega
    have hm' : cap ≤ 9223372036854775807 := hm
    refine ⟨zs.take len, by omega, fun n hn => hw n (List.mem_of_mem_take hn), LfR.ints _ _ _ _ _ hlt.symm hl hm fun hne => ?_⟩
    have h0 : 0 < len := by
      rcases Nat.eq_zero_or_pos len with h | h
      · subst h; simp at hne
      · exact h
    have hb := cell_in (hcell 0 (by omega))
    obtain ⟨b, o, sp⟩ := a
    simp only [Addr.add, if_true] at hb
    obtain ⟨hb1, hsp⟩ := hb
    subst hsp
    have hadd : ∀ i, (⟨b, o, none⟩ : Addr).add i = ⟨b, o + i, none⟩ := by
      intro i
      unfold Addr.add
      split
      · rename_i h; subst h; rfl
      · rfl
    refine ⟨b, o, rfl, hb1, fun i x hx => ?_⟩
    obtain ⟨hi, hxe⟩ := List.getElem?_eq_some_iff.1 hx
    rw [hlt] at hi
    have := hcell i (by omega)
    rw [hadd] at this
    rw [this]
    rw [List.getElem_take] at hxe
    rw [← hxe]
    simp [show i < zs.length by omega]
theorem wf_u8 {n : Int} (h : (Lit.int .u8 n).wf = true) : 0 ≤ n ∧ n < 256 := by
  simp only [Lit.wf, Bool.and_eq_true, decide_eq_true_eq] at h
  have h1 : IntKind.u8.min = 0 := by decide
  have h2 : IntKind.u8.max = 255 := by decide
  omega
theorem wf_i64 {n : Int} (h : (Lit.int .i64 n).wf = true) : -9223372036854775808 ≤ n ∧ n < 9223372036854775808 := by
  simp only [Lit.wf, Bool.and_eq_true, decide_eq_true_eq] at h
  have h1 : IntKind.i64.min = -9223372036854775808 := by decide
  have h2 : IntKind.i64.max = 9223372036854775807 := by decide
  omega
/-- A struct of a bool and bytes that came in. -/
theorem open_num {t e : TypeId} {f0 f1 : Field} {v : Value} {d : DataW H} {p : List MemPlace} {r : Reach} {b0 : Nat} (hs : P.underlying t = some (.struct #[f0, f1])) (hone : oneCellFields P #[f0, f1] = true) (hC : P.cellsOf t = 2)
    (h0 : P.underlying f0.type = some .bool) (ht : P.underlying f1.type = some (.slice e)) (he : P.underlying e = some (.int .u8)) (hc : P.cellsOf e = 1)
    (hv : Value.okWide P w r b0 t v) (h : DataW.Trod enc P w base spare held t v d p) :
    ∃ (b : Bool) (l : List Int), l.length ≤ 9223372036854775807 ∧ (∀ n ∈ l, 0 ≤ n ∧ n < 256) ∧ ∀ β, AvR β (Was w) w (.agg [.lf (.v (.bool b)), .lf (.ints .u8 l)]) v := by
  obtain ⟨c0, c1, y0, y1, n, rfl, rfl, rfl, hy0, hy1⟩ := open_agg2 hs hone hC hv h
  obtain ⟨b, e0, _⟩ := DataW.trod_bool h0 hy0
  simp at e0
  subst e0
  obtain ⟨l, h1, h2, h3⟩ := open_row ht he hc hy1
  refine ⟨b, l, h1, fun n hn => wf_u8 (h2 n hn), fun β => .agg _ _ rfl fun i x v hx hv => ?_⟩
  match i, hx, hv with
  | 0, hx, hv =>
    simp at hx hv
    subst hx hv
    exact .lf (.v _ rfl)
  | 1, hx, hv =>
    simp at hx hv
    subst hx hv
    exact .lf h3
theorem open_int {t : TypeId} {v : Value} {k : IntKind} {d : DataW H} {p : List MemPlace} (ht : P.underlying t = some (.int k)) {r : Reach} {b0 : Nat} (hv : Value.okWide P w r b0 t v) (h : DataW.Trod enc P w base spare held t v d p) :
    ∃ n : Int, (Lit.int k n).wf = true ∧ ∀ β, AvR β (Was w) w (.c (.lf (.v (.int k n)))) v := by
  obtain ⟨n0, rfl⟩ := okWide_int ht hv
  obtain ⟨fuel, h⟩ := h
  obtain ⟨n, hn, _, hw⟩ := DataW.trod_int ht h
  simp [Value.cells] at hn
  subst hn
  exact ⟨_, hw, fun β => .c (.lf (.v _ rfl))⟩
theorem Ct.calls {f : FuncId} {args : List Av} (h : Ct P f args [] (.c (.lf (.v (.bool true)))) [] []) (w : World) (vs : List Value) (hl : vs.length = args.length) (ha : ∀ (i : Nat) (x : Av) (v : Value), args[i]? = some x → vs[i]? = some v → AvR (fun _ => none) (Was w) w x v) :
    Calls P f vs.toArray w fun e w' => e = .returned (.bool true) ∧ Below w.heap.size w w' := by
  refine (h.2.2 w (fun _ => none) (Was w) vs hl ha (fun i b h => by simp at h) (fun i j g h => absurd h (Nat.not_lt_zero _)) (fun j g h => absurd h (Nat.not_lt_zero _)) (fun _ _ => rfl) (fun b hb => hb)).mono fun e w' hq => ?_
  obtain ⟨v, β', F', rfl, hr, _, _, ho⟩ := hq
  refine ⟨?_, ?_⟩
  · cases hr with | c hr => cases hr with | lf hr => cases hr with | v x h => rfl
  · have hk := ho.keep
    exact ⟨hk.os, hk.tape, hk.output, hk.size, fun k hk' => hk.block k hk' (by rintro ⟨i, hi, _⟩; exact absurd hi (Nat.not_lt_zero _))⟩
end
end Go.Sx

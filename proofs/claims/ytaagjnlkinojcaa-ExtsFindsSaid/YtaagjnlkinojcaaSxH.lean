/-
  Structs of whatever fields that came in, as data. No condition.
-/
import Derived.Test.YtaagjnlkinojcaaSxY
namespace Go.Sx
open Go
open Go.ChangeShapes Go.WideShapes Go.ChangeAt Go.RowKit Go.Joins Go.Deep
set_option linter.unusedVariables false
section
variable {H : Type} {enc : TypeId × Value → H} {P : Program} {w : World} {base : Nat} {spare : Nat → Bool} {held : Bool}
def ReadsAs (enc : TypeId × Value → H) (P : Program) (w : World) (base : Nat) (spare : Nat → Bool) (held : Bool) {A : Type} (t : TypeId) (k : Nat) (f : A → List Leaf) (Φ : A → Prop) : Prop :=
 ∀ n cs y, cs.length = k → DataW.trod enc P w base spare held n t cs = some y → ∃ a, Φ a ∧ (f a).length = k ∧ LeavesR w cs (f a)
theorem reads_one {A : Type} {t : TypeId} {g : A → Leaf} {Φ : A → Prop} (h : ∀ n c y, DataW.trod enc P w base spare held n t [c] = some y → ∃ x, Φ x ∧ LfR (Was w) w (g x) c) : ReadsAs enc P w base spare held t 1 (fun x => [g x]) Φ := by
 intro n cs y hcs hy
 match cs, hcs with
 | [c], _ =>
   obtain ⟨x, h1, h2⟩ := h n c y hy
   refine ⟨x, h1, rfl, rfl, fun j z hz => ?_⟩
   cases j with
   | zero => simp at hz; subst hz; exact ⟨c, rfl, h2⟩
   | succ j => simp at hz
theorem leaves_app {cs : List Value} {k0 k1 : Nat} {l0 l1 : List Leaf} (hk : cs.length = k0 + k1) (h0 : LeavesR w (cs.take k0) l0) (h1 : LeavesR w ((cs.drop k0).take k1) l1) : LeavesR w cs (l0 ++ l1) := by
 have e0 : l0.length = k0 := by rw [← h0.1]; simp; omega
 have e1 : l1.length = k1 := by rw [← h1.1]; simp; omega
 refine ⟨by simp; omega, fun j z hz => ?_⟩
 rcases Nat.lt_or_ge j k0 with h | h
 · rw [List.getElem?_append_left (by omega)] at hz
   obtain ⟨u, a, b⟩ := h0.2 j z hz
   rw [List.getElem?_take_of_lt h] at a
   exact ⟨u, a, b⟩
 · rw [List.getElem?_append_right (by omega), e0] at hz
   obtain ⟨u, a, b⟩ := h1.2 (j - k0) z hz
   have hj : j - k0 < k1 := by
     have := (List.getElem?_eq_some_iff.1 hz).1
     omega
   rw [List.getElem?_take_of_lt hj, List.getElem?_drop, show k0 + (j - k0) = j by omega] at a
   exact ⟨u, a, b⟩
theorem reads_three {A B C : Type} {t : TypeId} {f0 f1 f2 : Field} {k0 k1 k2 : Nat} {g0 : A → List Leaf} {g1 : B → List Leaf} {g2 : C → List Leaf} {Φ0 : A → Prop} {Φ1 : B → Prop} {Φ2 : C → Prop} (ht : P.underlying t = some (.struct #[f0, f1, f2])) (ho : f0.offset = 0 ∧ f1.offset = k0 ∧ f2.offset = k0 + k1) (hc0 : P.cellsOf f0.type = k0) (hc1 : P.cellsOf f1.type = k1) (hc2 : P.cellsOf f2.type = k2)
   (h0 : ReadsAs enc P w base spare held f0.type k0 g0 Φ0) (h1 : ReadsAs enc P w base spare held f1.type k1 g1 Φ1) (h2 : ReadsAs enc P w base spare held f2.type k2 g2 Φ2) : ReadsAs enc P w base spare held t (k0 + k1 + k2) (fun x : A × B × C => g0 x.1 ++ g1 x.2.1 ++ g2 x.2.2) (fun x => Φ0 x.1 ∧ Φ1 x.2.1 ∧ Φ2 x.2.2) := by
 intro n cs y hcs hy
 obtain ⟨y0, y1, y2, m, _, _, z0, z1, z2⟩ := trod_struct3 ht hy
 rw [ho.1, hc0, List.drop_zero] at z0
 rw [ho.2.1, hc1] at z1
 rw [ho.2.2, hc2] at z2
 obtain ⟨a, a1, a2, a3⟩ := h0 m _ _ (by simp; omega) z0
 obtain ⟨b, b1, b2, b3⟩ := h1 m _ _ (by simp; omega) z1
 obtain ⟨c, c1, c2, c3⟩ := h2 m _ _ (by simp; omega) z2
 refine ⟨(a, b, c), ⟨a1, b1, c1⟩, by simp [a2, b2, c2]; omega, leaves_app hcs (leaves_app (k0 := k0) (k1 := k1) (by simp; omega) ?_ ?_) c3⟩
 · rw [List.take_take, Nat.min_eq_left (by omega)]; exact a3
 · rw [List.drop_take, show k0 + k1 - k0 = k1 by omega, List.take_take, Nat.min_self]; exact b3
theorem open_agg {A : Type} {t : TypeId} {fs : Array Field} {k : Nat} {f : A → List Leaf} {Φ : A → Prop} {v : Value} {d : DataW H} {p : List MemPlace} {r : Reach} {b0 : Nat} (ht : P.underlying t = some (.struct fs)) (hC : P.cellsOf t = k) (hR : ReadsAs enc P w base spare held t k f Φ)
   (hv : Value.okWide P w r b0 t v) (h : DataW.Trod enc P w base spare held t v d p) : ∃ a, Φ a ∧ ∀ β, AvR β (Was w) w (.agg ((f a).map Cell.lf)) v := by
 obtain ⟨cs, rfl, hsz⟩ := okWide_struct ht hv
 obtain ⟨fuel, hf⟩ := h
 simp only [Value.cells] at hf
 obtain ⟨a, h1, h2, h3, h4⟩ := hR fuel cs.toList _ (by simpa [hC] using hsz) hf
 refine ⟨a, h1, fun β => .agg _ _ (by simpa using h3) fun i x u hx hu => ?_⟩
 rw [List.getElem?_map, Option.map_eq_some_iff] at hx
 obtain ⟨z, hz, rfl⟩ := hx
 obtain ⟨u', e1, e2⟩ := h4 i z hz
 rw [Array.getElem?_toList] at e1
 rw [e1] at hu
 cases hu
 exact .lf e2
theorem open_rowsS {A : Type} {t e : TypeId} {k : Nat} {f : A → List Leaf} {Φ : A → Prop} {v : Value} {d : DataW H} {p : List MemPlace} {r : Reach} {b0 : Nat} (ht : P.underlying t = some (.slice e)) (hc : P.cellsOf e = k) (hk : Nat.beq k 0 = false) (hR : ReadsAs enc P w base spare held e k f Φ)
   (hv : Value.okWide P w r b0 t v) (h : DataW.Trod enc P w base spare held t v d p) : ∃ l : List A, l.length ≤ 9223372036854775807 ∧ (∀ a ∈ l, Φ a) ∧ ∀ β, AvR β (Was w) w (.c (.lf (.recs k (l.map f)))) v := by
 obtain ⟨a, n, c, rfl⟩ := okWide_slice ht hv
 obtain ⟨fuel, h⟩ := h
 simp only [Value.cells] at h
 obtain ⟨l, h1, h2, h3⟩ := open_recs (f := f) (Φ := Φ) ht hc (by rintro rfl; simp at hk) (fun n cs y hcs hy => hR n cs y hcs hy) h
 exact ⟨l, h1, h2, fun β => .c (.lf h3)⟩
end
end Go.Sx

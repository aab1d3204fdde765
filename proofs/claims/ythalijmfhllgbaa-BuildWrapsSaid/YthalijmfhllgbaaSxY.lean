/-
  Rows of rows and of structs that came in, as data. No condition.
-/
import Derived.Test.YthalijmfhllgbaaB10
import Derived.Test.YthalijmfhllgbaaD8
namespace Go.Proofs.Ythalijmfhllgbaa
set_option linter.unusedSimpArgs false
set_option linter.unusedVariables false
open Go.Sx

set_option maxRecDepth 10000

theorem implP_len (n : Int) (l : List Int) (hw : WfB l) : (implP n l).1.length ≤ l.length + 20 := by
  have h := one_le l 0 (by omega) hw
  unfold implP
  split
  · simp
  · split
    · simp
    · have := wrapR_len (2, n, (oneP l 0).2.1.2.2) (oneP l 0).2.2.1
      omega
set_option maxHeartbeats 4000000 in
theorem wraps8_ok (rs : List (List Int)) (n : Int) (w0 : List Int) (hl0 : rs.length ≤ 9223372036854775807) (hw0 : w0.length ≤ 9223372036854775807) (hn0 : (Lit.int .i64 n).wf = true) (hww : WfB w0) : Ct Try.prog 9 [rowsA rs, lv (.int .i64 n), B8 w0] [] (lv (.bool true)) [] [] := by
  have hkn := known8_ok
  have hfew := few8_ok rs hl0
  have hfl := fewR_len rs
  have hfr := fewR_rows rs
  change Ct Try.prog 51 [rowsA rs] [] (rowsA (fewR rs)) [] [] at hfew
  generalize fewR rs = l at *
  have hff := flat_le l 100 hfr
  have hf : l.flatten.length ≤ 1000 := by omega
  have hrb : RowsB l := fun r hr => by have := hfr r hr; omega
  have hord := isortL_order l
  have hof := orderL_flat l []
  have hol := orderL_len l []
  rw [List.flatten_nil, List.length_nil, Nat.zero_add] at hof
  rw [List.length_nil, Nat.zero_add] at hol
  have j1 := join_ok l (by omega) (by omega)
  have s1 := sequence_ok l (by omega) (by omega)
  have s2 := setOf_ok l (by omega) hrb (by rw [hord]; omega)
  rw [hord] at s2
  have s3 := explicit_ok n l (by omega) (by omega)
  have o1 := order_ok l (by omega) hrb
  have j2 := join_ok (orderL l []) (by omega) (by omega)
  have r1 := refat2_ok n true
  have r2 := refWrap8_ok (2, n, true) l.flatten (by omega)
  have r3 := refoft_ok 16
  have r4 := refoft_ok 17
  have r5 := refwrap_ok (ofT 16) l.flatten (by decide) (by omega)
  have r6 := refwrap_ok (ofT 17) (orderL l []).flatten (by decide) (by omega)
  have hlw : (w0.take (min (w0.length : Int) 1000).toNat).length ≤ 1000 := by simp; omega
  have hwf : WfB (w0.take (min (w0.length : Int) 1000).toNat) := fun x hx => hww x (List.mem_of_mem_take hx)
  have wl1 := wrap_len (ofT 16) l.flatten
  have wl2 := wrap_len (ofT 17) (orderL l []).flatten
  have wl3 := wrapR_len (2, n, true) l.flatten
  have e1 := same_ok (wrapL (ofT 16) l.flatten) (wrapL (ofT 16) l.flatten) (by omega) (by omega)
  have e2 := same_ok (wrapL (ofT 17) (orderL l []).flatten) (wrapL (ofT 17) (orderL l []).flatten) (by omega) (by omega)
  have e3 := same_ok (wrapR (2, n, true) l.flatten).1 (wrapR (2, n, true) l.flatten).1 (by omega) (by omega)
  refine Ct_intro Try.func9 rfl rfl rfl rfl rfl (fun E hn hb => ?_)
  repeat refine nx ?_
  generalize w0.take (min (w0.length : Int) 1000).toNat = w at *
  have i1 := implicit_ok n w (by omega) hwf
  have i2 := refimpl_ok n w (by omega) hwf
  have il := implP_len n w hwf
  have e4 := same_ok (implP n w).1 (implP n w).1 (by omega) (by omega)
  repeat refine nx ?_
  trace_state
  refine rt2 [] (congrArg (fun x => lv (.bool x)) ?_) trivial; (simp [eqCs, Cell.kill, Cell.kill1])
end Go.Proofs.Ythalijmfhllgbaa

namespace Go.Sx
open Go
open Go.ChangeShapes Go.WideShapes Go.ChangeAt Go.RowKit Go.Joins Go.Deep
set_option linter.unusedVariables false
section
variable {H : Type} {enc : TypeId × Value → H} {P : Program} {w : World} {base : Nat} {spare : Nat → Bool} {held : Bool} {fuel : Nat}

/-- Cells that are read as the leaves of a thing. -/
def LeavesR (w : World) (cs : List Value) (ls : List Leaf) : Prop := cs.length = ls.length ∧ ∀ (j : Nat) (z : Leaf), ls[j]? = some z → ∃ u, cs[j]? = some u ∧ LfR (Was w) w z u

theorem open_recs {α : Type} {t e : TypeId} {sz : Nat} {f : α → List Leaf} {Φ : α → Prop} {v : Value} {x : DataW H × List MemPlace} (ht : P.underlying t = some (.slice e)) (hc : P.cellsOf e = sz) (hsz : sz ≠ 0)
    (hel : ∀ n cs y, cs.length = sz → DataW.trod enc P w base spare held n e cs = some y → ∃ a, Φ a ∧ (f a).length = sz ∧ LeavesR w cs (f a)) (h : DataW.trod enc P w base spare held fuel t [v] = some x) :
    ∃ l : List α, l.length ≤ 9223372036854775807 ∧ (∀ a ∈ l, Φ a) ∧ LfR (Was w) w (.recs sz (l.map f)) v := by
  rcases DataW.trod_slice ht h with ⟨hcs, _⟩ | ⟨a, len, cap, elems, rest, n, _, hcs, _, hb, hl, hm, hlen, hel2, hsp, hns⟩
  · simp at hcs
    subst hcs
    exact ⟨[], by simp, fun a h => (by cases h), LfR.recs _ _ _ _ _ (fun _ _ => undef) rfl (Nat.le_refl _) (Nat.zero_le _) (fun r h => by cases h) (fun h => absurd rfl h) (fun i r j x h => by simp at h)⟩
  · simp at hcs
    subst hcs
    have each : ∀ i : _root_.Fin len, ∃ a' : α, Φ a' ∧ (f a').length = sz ∧ ∀ (j : Nat) (z : Leaf), (f a')[j]? = some z → ∃ u, w.cell? ((a.add (i.val * sz)).add j) = some u ∧ LfR (Was w) w z u := by
      intro i
      have h1 := hel2 i.val i.isLt
      rw [hc] at h1
      have h2 : elems[i.val]? = some elems[i.val] := by simp [hlen]
      rw [h2] at h1
      obtain ⟨cs, e1, e2⟩ := Option.bind_eq_some_iff.1 h1
      obtain ⟨q1, q2, q3⟩ := World.cells?_some e1
      obtain ⟨a', p1, p2, p3, p4⟩ := hel n cs _ q2 e2
      refine ⟨a', p1, p2, fun j z hz => ?_⟩
      obtain ⟨u, u1, u2⟩ := p4 j z hz
      have hj : j < sz := by
        have := (List.getElem?_eq_some_iff.1 hz).1
        omega
      refine ⟨u, ?_, u2⟩
      rw [q3 j hj]
      exact u1
    obtain ⟨g, hg⟩ := Classical.axiomOfChoice each
    have hm' : cap ≤ 9223372036854775807 := hm
    refine ⟨List.ofFn g, by simp; omega, fun a' ha => ?_, ?_⟩
    · obtain ⟨i, rfl⟩ := (List.mem_ofFn).1 ha
      exact (hg i).1
    · have hget : ∀ (i : Nat) (r : List Leaf), ((List.ofFn g).map f)[i]? = some r → ∃ hi : i < len, r = f (g ⟨i, hi⟩) := by
        intro i r hr
        rw [List.getElem?_map, Option.map_eq_some_iff] at hr
        obtain ⟨q, hq, rfl⟩ := hr
        rw [List.getElem?_ofFn] at hq
        split at hq
        · rename_i hi
          exact ⟨hi, by rw [← Option.some.inj hq]⟩
        · cases hq
      obtain ⟨b, o, sp⟩ := a
      have hone : 0 < len → sp = none ∧ b < w.heap.size := by
        intro h0
        obtain ⟨_, p2, p3⟩ := hg ⟨0, h0⟩
        obtain ⟨z, hz⟩ : ∃ z, (f (g ⟨0, h0⟩))[0]? = some z := ⟨(f (g ⟨0, h0⟩))[0]'(by omega), by simp⟩
        obtain ⟨u, u1, _⟩ := p3 0 z hz
        have := cell_in u1
        simp [Addr.add] at this
        exact ⟨this.2, this.1⟩
      refine LfR.recs _ _ _ _ _ (fun i j => (w.cell? ⟨b, o + i * sz + j, none⟩).getD undef) (by simp) hl hm (fun r hr => ?_) (fun hne => ?_) (fun i r j x hi hj => ?_)
      · obtain ⟨a', ha, rfl⟩ := List.mem_map.1 hr
        obtain ⟨i, rfl⟩ := (List.mem_ofFn).1 ha
        exact (hg i).2.1
      · have h0 : 0 < len := by
          rcases Nat.eq_zero_or_pos len with h | h
          · subst h; simp at hne
          · exact h
        obtain ⟨rfl, hb1⟩ := hone h0
        refine ⟨b, o, rfl, hb1, fun i r j x hi hj => ?_⟩
        obtain ⟨hi', rfl⟩ := hget i r hi
        obtain ⟨u, u1, _⟩ := (hg ⟨i, hi'⟩).2.2 j x hj
        rw [add_none, add_none] at u1
        rw [u1]; rfl
      · obtain ⟨hi', rfl⟩ := hget i r hi
        obtain ⟨rfl, hb1⟩ := hone (by omega)
        obtain ⟨u, u1, u2⟩ := (hg ⟨i, hi'⟩).2.2 j x hj
        rw [add_none, add_none] at u1
        rw [u1]; exact u2
/-- Rows of bytes that came in. -/
theorem open_rowsB {t e e2 : TypeId} {v : Value} {d : DataW H} {p : List MemPlace} (ht : P.underlying t = some (.slice e)) (he : P.underlying e = some (.slice e2)) (he2 : P.underlying e2 = some (.int .u8)) (hc : P.cellsOf e = 1) (hc2 : P.cellsOf e2 = 1) {r : Reach} {b0 : Nat} (hv : Value.okWide P w r b0 t v)
    (h : DataW.Trod enc P w base spare held t v d p) : ∃ l : List (List Int), l.length ≤ 9223372036854775807 ∧ (∀ b ∈ l, b.length ≤ 9223372036854775807 ∧ ∀ n ∈ b, 0 ≤ n ∧ n < 256) ∧ ∀ β, AvR β (Was w) w (.c (.lf (.recs 1 (l.map fun b => [.ints .u8 b])))) v := by
  obtain ⟨a, n, c, rfl⟩ := okWide_slice ht hv
  obtain ⟨fuel, h⟩ := h
  simp only [Value.cells] at h
  obtain ⟨l, h1, h2, h3⟩ := open_recs (f := fun b => [Leaf.ints .u8 b]) (Φ := fun b => b.length ≤ 9223372036854775807 ∧ ∀ n ∈ b, 0 ≤ n ∧ n < 256) ht hc (by decide) (fun n cs y hcs hy => by
    match cs, hcs with
    | [u], _ =>
      obtain ⟨b, q1, q2, q3⟩ := open_row he he2 hc2 hy
      refine ⟨b, ⟨q1, fun n hn => wf_u8 (q2 n hn)⟩, rfl, rfl, fun j z hz => ?_⟩
      cases j with
      | zero => simp at hz; subst hz; exact ⟨u, rfl, q3⟩
      | succ j => simp at hz) h
  exact ⟨l, h1, h2, fun β => .c (.lf h3)⟩
end
end Go.Sx

/-
  The walk's rules that turn memory: literals, make, append, stores, copy. No condition.
-/
import Derived.Test.YtppmfjopokkhmaaSxL
namespace Go.Sx
open Go
set_option linter.unusedVariables false

/-- What a slice type's elements are: type, cells, bytes. -/
def Elt (P : Program) (t e : TypeId) (sz by_ : Nat) : Prop := P.underlying t = some (.slice e) ∧ ∃ i z, P.info? e = some i ∧ i.zero = some z ∧ i.size = sz ∧ i.bytes = by_ ∧ z.cells.size = sz

theorem elt_mk {P : Program} {t e : TypeId} {z : Value} {sz by_ : Nat} (h1 : P.underlying t = some (.slice e)) (h2 : (P.info? e).map (fun i => (i.zero, i.size, i.bytes)) = some (some z, sz, by_)) (h3 : z.cells.size = sz) : Elt P t e sz by_ := by
  obtain ⟨i, hi, a, b, c⟩ := info_parts h2
  exact ⟨h1, i, z, hi, a, b, c, h3⟩

/-! Stores. -/

theorem Row.frozen {w : World} {g : Nat} {cur : Array Value} (h : Row w g cur) {j : Nat} (hj : j < cur.size) : w.frozen? ⟨g, j, none⟩ = false := by
  obtain ⟨t, fr, h, hf⟩ := h
  obtain ⟨f1, f2⟩ := fr
  simp only [World.frozen?, h]
  simp only at hf
  simp only [Bool.and_eq_false_iff, decide_eq_false_iff_not]
  omega

theorem Row.set {w : World} {g : Nat} {cur : Array Value} (h : Row w g cur) (j : Nat) (v : Value) : Row (w.setCell ⟨g, j, none⟩ v) g (cur.setIfInBounds j v) := by
  obtain ⟨t, fr, h, hf⟩ := h
  refine ⟨t, fr, ?_, by simpa using hf⟩
  simp [World.setCell, Array.getElem?_modify, h]

/-- Block g has been written: cells cur' in the place of cur. -/
structure Wr (w w' : World) (g : Nat) (cur' : Array Value) : Prop where
  os : w'.os = w.os
  tape : w'.tape = w.tape
  output : w'.output = w.output
  size : w'.heap.size = w.heap.size
  other : ∀ k, k ≠ g → w'.heap[k]? = w.heap[k]?
  row : Row w' g cur'

/-- vs laid over cur from off on. -/
def lay (cur : Array Value) (off : Nat) (vs : List Value) : Array Value := (cur.toList.take off ++ vs ++ cur.toList.drop (off + vs.length)).toArray

theorem size_lay {cur : Array Value} {off : Nat} {vs : List Value} (h : off + vs.length ≤ cur.size) : (lay cur off vs).size = cur.size := by simp [lay]; omega

theorem get_lay {cur : Array Value} {off : Nat} {vs : List Value} (h : off + vs.length ≤ cur.size) (i : Nat) : (lay cur off vs)[i]? = if i < off then cur[i]? else if i < off + vs.length then vs[i - off]? else cur[i]? := by
  simp only [lay, List.getElem?_toArray, List.append_assoc]
  by_cases h1 : i < off
  · rw [List.getElem?_append_left (by simp; omega), List.getElem?_take, if_pos h1, if_pos h1]; simp
  · rw [if_neg h1, List.getElem?_append_right (by simp; omega)]
    simp only [List.length_take, Array.length_toList, show min off cur.size = off by omega]
    by_cases h2 : i < off + vs.length
    · rw [if_pos h2, List.getElem?_append_left (by omega)]
    · rw [if_neg h2, List.getElem?_append_right (by omega), List.getElem?_drop]
      simp only [Array.getElem?_toList]
      congr 1
      omega

theorem run_storeCells' {P : Program} {g off : Nat} : ∀ (vs : List Value) (i : Nat) (w : World) (cur : Array Value), (∀ v, v ∈ vs → v.oneCell' = true) → Row w g cur → off + i + vs.length ≤ cur.size →
    ∃ w', (storeCells ⟨g, off, none⟩ vs i).run P w = .ok () w' ∧ Wr w w' g (lay cur (off + i) vs)
  | [], i, w, cur, h1, hr, hs => by
    refine ⟨w, by simp [storeCells], rfl, rfl, rfl, rfl, fun _ _ => rfl, ?_⟩
    have : lay cur (off + i) [] = cur := by
      apply Array.toList_inj.1
      simp [lay]
    rw [this]; exact hr
  | v :: vs, i, w, cur, h1, hr, hs => by
    simp only [List.length_cons] at hs
    have hlt : off + i < cur.size := by omega
    have hc : w.cell? ⟨g, off + i, none⟩ = some cur[off + i] := by rw [hr.cell]; simp [hlt]
    obtain ⟨w', r1, r2⟩ := run_storeCells' (P := P) (g := g) (off := off) vs (i + 1) (w.setCell ⟨g, off + i, none⟩ v) (cur.setIfInBounds (off + i) v) (fun u hu => h1 u (List.mem_cons_of_mem _ hu)) (hr.set (off + i) v) (by simp; omega)
    refine ⟨w', ?_, ?_⟩
    · simp only [storeCells, add_none, Sem.run_bind, run_store P w _ v .plain (h1 v (List.mem_cons_self ..)), hc, hr.frozen hlt, Bool.false_eq_true, if_false, Result.andThen_ok]
      exact r1
    · obtain ⟨a1, a2, a3, a4, a5, a6⟩ := r2
      refine ⟨a1, a2, a3, by rw [a4]; simp, fun k hk => (a5 k hk).trans (heap_setCell_other w _ k v hk), ?_⟩
      have e : lay (cur.setIfInBounds (off + i) v) (off + (i + 1)) vs = lay cur (off + i) (v :: vs) := by
        apply Array.ext_getElem?
        intro k
        rw [get_lay (by simp; omega), get_lay (by simp; omega)]
        simp only [Array.getElem?_setIfInBounds, List.length_cons]
        by_cases k1 : k < off + i
        · rw [if_pos (by omega), if_neg (by omega), if_pos k1]
        · by_cases k2 : k = off + i
          · subst k2
            rw [if_pos (by omega), if_pos rfl, if_pos hlt, if_neg (by omega), if_pos (by omega)]
            simp
          · rw [if_neg (by omega), if_neg k1]
            by_cases k3 : k < off + i + (vs.length + 1)
            · rw [if_pos (by omega), if_pos k3]
              obtain ⟨m, rfl⟩ : ∃ m, k = off + i + 1 + m := ⟨k - (off + i + 1), by omega⟩
              rw [show off + i + 1 + m - (off + (i + 1)) = m by omega, show off + i + 1 + m - (off + i) = m + 1 by omega]
              rfl
            · rw [if_neg (by omega), if_neg (by omega), if_neg k3]
      rw [e] at a6
      exact a6

theorem SRb.written {E : Env} {σ : St} {β : Nat → Option Nat} {F : Nat → Prop} {a : Act} {w w' : World} (h : SRb E β F σ a w) {j g : Nat} {cur cur' : Array Value} {blk : Blk} (hj : σ.hp j ≠ .gone) (hg : β j = some g) (hrow : Row w g cur)
    (hw : Wr w w' g cur') (hs : cur'.size = cur.size) (hblk : BlkR β F w' j blk) : SRb E β F (σ.seth j blk) a w' ∧ ∀ {x : Av} {v : Value}, AvR β F w x v → AvR β F w' x v :=
  h.upd hj hg hrow hw.os hw.tape hw.output hw.size hw.other hw.row hs hblk

/-- How the relations stand in a world in which block g, none of F, has been written. -/
theorem Wr.cells {β : Nat → Option Nat} {F : Nat → Prop} {w w' : World} {g : Nat} {cur cur' : Array Value} (hw : Wr w w' g cur') (hrow : Row w g cur) (hs : cur'.size = cur.size) (hF : ¬ F g) {x : Cell} {v : Value} (h : CellR β F w x v) : CellR β F w' x v := by
  refine h.mono (fun _ _ h => h) (fun b hb => ⟨hb, hw.other b (fun e => hF (e ▸ hb))⟩) (fun g' n hc => ?_)
  by_cases e : g' = g
  · subst e
    obtain ⟨c2, ⟨t, fr, h1, h2⟩, h3⟩ := hc
    obtain ⟨t', fr', h1', _⟩ := hrow
    rw [h1] at h1'
    simp only [Option.some.injEq, Obj.cells.injEq] at h1'
    obtain ⟨rfl, _, _⟩ := h1'
    exact ⟨cur', hw.row, by omega⟩
  · exact hc.same (hw.other g' e)
theorem Wr.leafs {F : Nat → Prop} {w w' : World} {g : Nat} {cur' : Array Value} (hw : Wr w w' g cur') (hF : ¬ F g) {d : Leaf} {vs : List Value} (h : RC F w d vs) : RC F w' d vs :=
  h.mono fun b hb => ⟨hb, hw.other b (fun e => hF (e ▸ hb))⟩

section
variable {P : Program} {E : Env} {ops : Array Oper} {Q : Exit → Act → World → Prop} {rest : List Oper} {o : Oper} {σ : St}

/-- cs laid over a block's cells. -/
def layC (cs : List Cell) (off : Nat) (xs : List Cell) : List Cell := cs.take off ++ xs ++ cs.drop (off + xs.length)

/-- An operation that yields nothing: from state to state. -/
def StepK (P : Program) (E : Env) (o : Oper) (σ σ' : St) : Prop := ∀ a w, SR E σ a w → ∃ w', (execOp a.eval o).run P w = .ok .skip w' ∧ SR E σ' (a.put o.dst undef) w'
/-- A store into a struct of the call's own. -/
theorem st_store {t : TypeId} {x y : Operand} {px py : List Prop} {j off : Nat} {v : Av} {cs xs : List Cell} (hop : o.op = .store t x y) (hdn : o.dst = none) (hx : ox σ x = (px, .c (.ptr j off))) (hy : ox σ y = (py, v)) (hp : AllP (px ++ py))
    (hb : σ.hp j = .cells cs) (hxs : cellsA v = some xs) (hu : isUn v = false) (hsz : P.cellsOf t = xs.length ∧ (P.info? t).isSome = true ∧ off + xs.length ≤ cs.length) : StepK P E o σ (σ.seth j (.cells (layC cs off xs))) := by
  intro a w hS
  obtain ⟨β, F, hS⟩ := hS
  have hv1 := oxR hS x
  rw [hx] at hv1
  have hv1 := hv1 hp.left
  have hv2 := oxR hS y
  rw [hy] at hv2
  have hv2 := hv2 hp.right
  generalize he1 : a.eval x = v1 at hv1
  generalize he2 : a.eval y = v2 at hv2
  dsimp only at hv1 hv2
  cases hv1 with | c hv1 => cases hv1 with | ptr _ _ g hgj =>
  obtain ⟨k1, k2⟩ := cellsA_R hv2 hxs (by intro h; subst h; simp [isUn] at hu)
  have hB := hS.hp j
  rw [hb] at hB
  obtain ⟨g', cur, hg', hrow, hcs, hcc⟩ := hB
  rw [hgj] at hg'
  obtain rfl := Option.some.inj hg'
  have hgone : σ.hp j ≠ .gone := by rw [hb]; intro h; cases h
  obtain ⟨_, _, hnF⟩ := hS.own j g hgone hgj
  obtain ⟨s1, s2, s3⟩ := hsz
  obtain ⟨w', r1, r2⟩ := run_storeCells' (P := P) (g := g) (off := off) v2.cells.toList 0 w cur (fun u hu => by
    obtain ⟨i, hi, rfl⟩ := List.mem_iff_getElem.1 hu
    have hlt : i < xs.length := by rw [← k1]; simpa using hi
    exact (k2 i xs[i] _ (by simp [hlt]) (by simp at hi; simp [hi])).one) hrow (by simp [k1]; omega)
  simp only [Nat.add_zero] at r2
  have hfit : off + v2.cells.toList.length ≤ cur.size := by simp [k1]; omega
  have hls : (lay cur off v2.cells.toList).size = cur.size := size_lay hfit
  refine ⟨w', ?_, ?_⟩
  · simp only [execOp, hop, he1, he2, Instr.storeAt, Instr.sureAddr, storeVar, Sem.run_bind, Sem.run_pure, Result.andThen_ok, run_sizeOf' s2, s1, k1, ne_eq, not_true_eq_false, if_false, r1, Sem.run_ite]
  · have hfin := hS.written hgone hgj hrow r2 hls (blk := .cells (layC cs off xs)) ⟨g, _, hgj, r2.row, by rw [hls]; simp [layC]; omega, fun i x u hxi hui => ?_⟩
    · refine ⟨β, F, ?_⟩
      rw [hdn]
      exact hfin.1
    · rw [get_lay hfit] at hui
      simp only [layC, List.append_assoc] at hxi
      by_cases h1 : i < off
      · rw [if_pos h1] at hui
        rw [List.getElem?_append_left (by simp; omega), List.getElem?_take, if_pos h1] at hxi
        exact r2.cells hrow hls hnF (hcc i x u hxi hui)
      · rw [if_neg h1] at hui
        rw [List.getElem?_append_right (by simp; omega)] at hxi
        simp only [List.length_take, show min off cs.length = off by omega] at hxi
        by_cases h2 : i < off + xs.length
        · rw [if_pos (by simp [k1]; omega)] at hui
          rw [List.getElem?_append_left (by omega)] at hxi
          exact r2.cells hrow hls hnF (k2 _ x u hxi (by simpa using hui))
        · rw [if_neg (by simp [k1]; omega)] at hui
          rw [List.getElem?_append_right (by omega), List.getElem?_drop] at hxi
          rw [show off + xs.length + (i - off - xs.length) = i by omega] at hxi
          exact r2.cells hrow hls hnF (hcc i x u hxi hui)


theorem s_store {t : TypeId} {x y : Operand} {px py : List Prop} {j off : Nat} {v : Av} {cs xs : List Cell} (hop : o.op = .store t x y) (hg : o.guard = none) (hdn : o.dst = none) (hx : ox σ x = (px, .c (.ptr j off))) (hy : ox σ y = (py, v)) (hp : AllP (px ++ py))
    (hb : σ.hp j = .cells cs) (hxs : cellsA v = some xs) (hu : isUn v = false) (hsz : P.cellsOf t = xs.length ∧ (P.info? t).isSome = true ∧ off + xs.length ≤ cs.length)
    (hk : WL P E ops Q rest (σ.seth j (.cells (layC cs off xs)))) : WL P E ops Q (o :: rest) σ := WL_skip hg _ (st_store hop hdn hx hy hp hb hxs hu hsz) hk
/-- A store into a row of numbers: one of them. -/
theorem st_storeI {t : TypeId} {x y : Operand} {px py : List Prop} {j off : Nat} {k : IntKind} {n : Int} {l : List Int} (hop : o.op = .store t x y) (hdn : o.dst = none) (hx : ox σ x = (px, .c (.ptr j off))) (hy : ox σ y = (py, lv (.int k n)))
    (hp : AllP (px ++ py)) (hb : σ.hp j = .row (.ints k l)) (hsz : P.cellsOf t = 1) (hlt : off < l.length) : StepK P E o σ (σ.seth j (.row (.ints k (l.set off n)))) := by
  intro a w hS
  obtain ⟨β, F, hS⟩ := hS
  have hv1 := oxR hS x
  rw [hx] at hv1
  have hv1 := hv1 hp.left
  have hv2 := oxR hS y
  rw [hy] at hv2
  have hv2 := (hv2 hp.right).val
  generalize he1 : a.eval x = v1 at hv1
  dsimp only at hv1
  cases hv1 with | c hv1 => cases hv1 with | ptr _ _ g hgj =>
  have hB := hS.hp j
  rw [hb] at hB
  have hgone : σ.hp j ≠ .gone := by rw [hb]; intro h; cases h
  obtain ⟨_, _, hnF⟩ := hS.own j g hgone hgj
  rcases hB with ⟨h0, _⟩ | ⟨g', cur, hg', hrow, hcc⟩
  · subst h0; simp at hlt
  · rw [hgj] at hg'
    obtain rfl := Option.some.inj hg'
    have hlc : off < cur.size := by
      have := hcc off l[off] (by simp [hlt])
      exact (Array.getElem?_eq_some_iff.1 this).1
    have hi : (P.info? t).isSome = true := info_of_cells (by rw [hsz]; decide)
    obtain ⟨w', r1, r2⟩ := run_storeCells' (P := P) (g := g) (off := off) [.int k n] 0 w cur (fun u hu => by rw [List.mem_singleton.1 hu]; rfl) hrow (by simp; omega)
    simp only [Nat.add_zero] at r2
    have hfit : off + [Value.int k n].length ≤ cur.size := by simp; omega
    have hls := size_lay hfit
    refine ⟨w', ?_, ?_⟩
    · simp only [execOp, hop, he1, hv2, Instr.storeAt, Instr.sureAddr, storeVar, Sem.run_bind, Sem.run_pure, Result.andThen_ok, run_sizeOf' hi, hsz, Value.cells, List.size_toArray, List.length_cons, List.length_nil, Nat.zero_add, ne_eq, not_true_eq_false, if_false, r1, Sem.run_ite]
    · have hfin := hS.written hgone hgj hrow r2 hls (blk := .row (.ints k (l.set off n))) (.inr ⟨g, _, hgj, r2.row, fun i z hz => ?_⟩)
      · refine ⟨β, F, ?_⟩
        rw [hdn]
        exact hfin.1
      · rw [get_lay hfit]
        rw [List.getElem?_set] at hz
        simp only [List.length_cons, List.length_nil, Nat.zero_add]
        by_cases h1 : i < off
        · rw [if_pos h1]
          rw [if_neg (by omega)] at hz
          exact hcc i z hz
        · rw [if_neg h1]
          by_cases h2 : off = i
          · subst h2
            rw [if_pos rfl, if_pos hlt] at hz
            rw [if_pos (by omega)]
            simp at hz
            simp [hz]
          · rw [if_neg h2] at hz
            rw [if_neg (by omega)]
            exact hcc i z hz


theorem s_storeI {t : TypeId} {x y : Operand} {px py : List Prop} {j off : Nat} {k : IntKind} {n : Int} {l : List Int} (hop : o.op = .store t x y) (hg : o.guard = none) (hdn : o.dst = none) (hx : ox σ x = (px, .c (.ptr j off))) (hy : ox σ y = (py, lv (.int k n)))
    (hp : AllP (px ++ py)) (hb : σ.hp j = .row (.ints k l)) (hsz : P.cellsOf t = 1) (hlt : off < l.length) (hk : WL P E ops Q rest (σ.seth j (.row (.ints k (l.set off n))))) : WL P E ops Q (o :: rest) σ := WL_skip hg _ (st_storeI hop hdn hx hy hp hb hsz hlt) hk
/-- A whole array of numbers stored. -/
theorem st_storeA {t : TypeId} {x y : Operand} {px py : List Prop} {j : Nat} {k : IntKind} {l l' : List Int} (hop : o.op = .store t x y) (hdn : o.dst = none) (hx : ox σ x = (px, .c (.ptr j 0))) (hy : ox σ y = (py, .ai k l'))
    (hp : AllP (px ++ py)) (hb : σ.hp j = .row (.ints k l)) (hsz : P.cellsOf t = l'.length) (hlen : l'.length = l.length) (hne : l' ≠ []) : StepK P E o σ (σ.seth j (.row (.ints k l'))) := by
  intro a w hS
  obtain ⟨β, F, hS⟩ := hS
  have hv1 := oxR hS x
  rw [hx] at hv1
  have hv1 := hv1 hp.left
  have hv2 := oxR hS y
  rw [hy] at hv2
  have hv2 := hv2 hp.right
  generalize he1 : a.eval x = v1 at hv1
  generalize he2 : a.eval y = v2 at hv2
  dsimp only at hv1 hv2
  cases hv2 with | ai =>
  cases hv1 with | c hv1 => cases hv1 with | ptr _ _ g hgj =>
  have hB := hS.hp j
  rw [hb] at hB
  have hgone : σ.hp j ≠ .gone := by rw [hb]; intro h; cases h
  obtain ⟨_, _, hnF⟩ := hS.own j g hgone hgj
  have hpos : 0 < l'.length := List.length_pos_iff.2 hne
  rcases hB with ⟨h0, _⟩ | ⟨g', cur, hg', hrow, hcc⟩
  · subst h0; simp at hlen; exact absurd hlen hne
  · rw [hgj] at hg'
    obtain rfl := Option.some.inj hg'
    have hlc : l.length ≤ cur.size := by
      have := hcc (l.length - 1) (l[l.length - 1]'(by omega)) (by simp [show l.length - 1 < l.length by omega])
      have := (Array.getElem?_eq_some_iff.1 this).1
      omega
    have hi : (P.info? t).isSome = true := info_of_cells (by rw [hsz]; omega)
    obtain ⟨w', r1, r2⟩ := run_storeCells' (P := P) (g := g) (off := 0) (l'.map (Value.int k)) 0 w cur (fun u hu => by obtain ⟨_, _, rfl⟩ := List.mem_map.1 hu; rfl) hrow (by simp; omega)
    simp only [Nat.add_zero] at r2
    have hfit : 0 + (l'.map (Value.int k)).length ≤ cur.size := by simp; omega
    have hls := size_lay hfit
    refine ⟨w', ?_, ?_⟩
    · simp only [execOp, hop, he1, he2, Instr.storeAt, Instr.sureAddr, storeVar, Sem.run_bind, Sem.run_pure, Result.andThen_ok, run_sizeOf' hi, hsz, Value.cells, List.size_toArray, List.length_map, ne_eq, not_true_eq_false, if_false, r1, Sem.run_ite]
    · have hfin := hS.written hgone hgj hrow r2 hls (blk := .row (.ints k l')) (.inr ⟨g, _, hgj, r2.row, fun i z hz => ?_⟩)
      · refine ⟨β, F, ?_⟩
        rw [hdn]
        exact hfin.1
      · rw [get_lay hfit]
        have hlt := (List.getElem?_eq_some_iff.1 hz).1
        rw [if_neg (by omega), if_pos (by simpa using hlt)]
        simp [hz]


theorem s_storeA {t : TypeId} {x y : Operand} {px py : List Prop} {j : Nat} {k : IntKind} {l l' : List Int} (hop : o.op = .store t x y) (hg : o.guard = none) (hdn : o.dst = none) (hx : ox σ x = (px, .c (.ptr j 0))) (hy : ox σ y = (py, .ai k l'))
    (hp : AllP (px ++ py)) (hb : σ.hp j = .row (.ints k l)) (hsz : P.cellsOf t = l'.length) (hlen : l'.length = l.length) (hne : l' ≠ []) (hk : WL P E ops Q rest (σ.seth j (.row (.ints k l')))) : WL P E ops Q (o :: rest) σ := WL_skip hg _ (st_storeA hop hdn hx hy hp hb hsz hlen hne) hk
/-! make. -/

theorem s_make {t e : TypeId} {x y : Operand} {px py : List Prop} {k : IntKind} {kl kc : IntKind} {n c : Int} {by_ : Nat} (hop : o.op = .makeSlice t x y) (hg : o.guard = none) (hd : dstOk E.n o.dst = true) (hE : Elt P t e 1 by_) (hz : (P.info? e).bind (·.zero) = some (.int k 0))
    (hx : ox (fresh σ o.dst) x = (px, lv (.int kl n))) (hy : ox (fresh σ o.dst) y = (py, lv (.int kc c))) (hp : AllP (px ++ py)) (hn : 0 ≤ n ∧ n ≤ c ∧ c ≤ 9223372036854775807 ∧ (by_ : Int) * c ≤ 281474976710656)
    (hk : WL P E ops Q rest (((fresh σ o.dst).seth (nk o.dst 0) (.row (.ints k (List.replicate n.toNat 0)))).put o.dst (.c (.own (nk o.dst 0) 1 0 n.toNat)))) : WL P E ops Q (o :: rest) σ := by
  refine WL_step hg _ (fun a w hS => ?_) hk
  obtain ⟨β, F, hS⟩ := hS
  obtain ⟨β', hS', h1, h2, h3⟩ := hS.fresh o.dst
  have hv1 := oxR hS' x
  rw [hx] at hv1
  have hv1 := (hv1 hp.left).val
  have hv2 := oxR hS' y
  rw [hy] at hv2
  have hv2 := (hv2 hp.right).val
  obtain ⟨ht, i, z, hi, hz', hsz, hby, _⟩ := hE
  have : z = .int k 0 := by simpa [hi, hz'] using hz
  subst this
  obtain ⟨c1, c2, c3, c4⟩ := hn
  have hrun := run_make (P := P) w t e i (.int k 0) ht hi hz' kl kc n c c1 c2 (by rw [hby]; exact c4) c3
  simp only [hsz, Nat.mul_one] at hrun
  have hget : ∀ j, j < c.toNat → (madeCells (Value.int k 0).cells c.toNat)[j]? = some (.int k 0) := fun j hj => by
    simp [madeCells, Value.cells, hj, Nat.mod_one]
  obtain ⟨β2, hS2, h4⟩ := newRow' (t := e) (cur := madeCells (Value.int k 0).cells c.toNat) (vs := List.replicate n.toNat (Value.int k 0)) (d := .ints k (List.replicate n.toNat 0)) hS' h1 h2 h3 (by simp [RC]) (fun j v hv => by
    rw [List.getElem?_replicate] at hv
    split at hv
    · rename_i hj
      rw [hget j (by omega)]; exact hv
    · cases hv)
  refine ⟨.slice (some ⟨w.heap.size, 0, none⟩) n.toNat c.toNat, w.alloc (.cells (madeCells (Value.int k 0).cells c.toNat) e), ?_, β2, F, hS2.put (.c (.own _ _ _ _ _ _ (by omega) (by simp only [maxLen]; omega) ?_)) (dstOk_lt hd)⟩
  · simp only [execOp, hop, hv1, hv2, Sem.run_bind, hrun, Result.andThen_ok]
    rfl
  · refine .inr ⟨_, h4, rfl, _, row_alloc _ _, ?_⟩
    simp [madeCells]
end

end Go.Sx

/-
  Pure operations: the function that computes them, and its soundness. No condition.
-/
import Derived.Test.YtppmfjopokkhmaaSxB
namespace Go.Sx
open Go
set_option linter.unusedVariables false

abbrev lv (x : Value) : Av := .c (.lf (.v x))

def impP (x : Bool) : List Prop → List Prop
  | [] => []
  | ps => [x = true → AllP ps]
theorem impP_out {x : Bool} {ps : List Prop} (h : AllP (impP x ps)) (hx : x = true) : AllP ps := by
  cases ps with
  | nil => trivial
  | cons p ps => exact h hx

def pickP : List Prop × Av → List Prop × Av → List Prop × Av → Option (List Prop × Av)
  | (pc, .c (.lf (.v (.bool x)))), (pa, .c (.lf (.v (.bool y)))), (pb, .c (.lf (.v (.bool z)))) => some (pc ++ (impP x pa ++ impP (!x) pb), lv (.bool (cond x y z)))
  | _, _, _ => none

def binP (nw : Bool) (P : Program) (op : BinOp) (t : TypeId) : List Prop × Av → List Prop × Av → Option (List Prop × Av)
  | (p, .c (.lf (.v u))), (q, .c (.lf (.v v))) => match binV nw P op t u v with | some (r, z) => some ((p ++ q) ++ r, lv z) | none => none
  | _, _ => none

def unP (nw : Bool) (op : UnOp) : List Prop × Av → Option (List Prop × Av)
  | (p, .c (.lf (.v (.bool b)))) => match op with | .not => some (p, lv (.bool (!b))) | _ => none
  | (p, .c (.lf (.v (.int k n)))) =>
    match op with
    | .neg => if nw then some (p ++ [k.wrap (0 - n) = -n], lv (.int k (-n))) else some (p, lv (.int k (k.wrap (0 - n))))
    | .xor => some (p, lv (.int k (k.wrap (BitVec.ofInt k.bits (if k.signed then -1 else k.max) ^^^ BitVec.ofInt k.bits n).toNat)))
    | _ => none
  | _ => none

def cvtP (nw : Bool) (P : Program) (s d : TypeId) : List Prop × Av → Option (List Prop × Av)
  | (p, .c (.lf (.v (.int k n)))) =>
    match P.underlying d with
    | some (.int k') => if nw then some (p ++ [(P.underlying s).isSome = true, k'.wrap n = n], lv (.int k' n)) else some (p ++ [(P.underlying s).isSome = true], lv (.int k' (k'.wrap n)))
    | _ => none
  | _ => none

def loadP (P : Program) (σ : St) (t : TypeId) : List Prop × Av → Option (List Prop × Av)
  | (p, .c (.ptr j off)) =>
    match σ.hp j with
    | .cells cs =>
      match tagg P t with
      | true => some (p ++ [off + P.cellsOf t ≤ cs.length, (P.info? t).isSome = true], .agg ((cs.drop off).take (P.cellsOf t)))
      | false => match cs[off]? with | some x => some (p ++ [(P.underlying t).isSome = true], .c x) | none => none
    | .row (.ints k l) =>
      match tagg P t with
      | true => some (p ++ [off = 0, P.cellsOf t = l.length, l ≠ []], .ai k l)
      | false => some (p ++ [off < l.length, (P.underlying t).isSome = true], lv (.int k (l.getD off 0)))
    | _ => none
  | (p, .c (.lf (.obj cs))) =>
    match tagg P t with
    | true => some (p ++ [P.cellsOf t ≤ cs.length, (P.info? t).isSome = true], .agg ((cs.take (P.cellsOf t)).map Cell.lf))
    | false => match cs with | x :: _ => some (p ++ [(P.underlying t).isSome = true], .c (.lf x)) | [] => none
  | _ => none

def nilP : List Prop × Av → Option (List Prop × Av)
  | (p, .c (.ptr j off)) => some (p, .c (.ptr j off))
  | (p, .c (.pel j sz i k)) => some (p, .c (.pel j sz i k))
  | (p, .c (.lf (.obj cs))) => some (p, .c (.lf (.obj cs)))
  | _ => none

def fieldP (P : Program) (s : TypeId) (f : Nat) : List Prop × Av → Option (List Prop × Av)
  | (p, x) =>
    match P.underlying s with
    | some (.struct fs) =>
      match fs[f]? with
      | some fd =>
        match x with
        | .c (.ptr j off) => some (p ++ [P.cellsOf fd.type ≠ 0], .c (.ptr j (off + fd.offset)))
        | .c (.lf (.obj cs)) => some (p ++ [P.cellsOf fd.type ≠ 0], .c (.lf (.obj (cs.drop fd.offset))))
        | .c (.pel j sz i k) => some (p ++ [P.cellsOf fd.type ≠ 0], .c (.pel j sz i (k + fd.offset)))
        | _ => none
      | none => none
    | _ => none


/-! Soundness. -/

theorem run_sizeOf' {P : Program} {t : TypeId} (h : (P.info? t).isSome = true) (w : World) : (sizeOf t).run P w = .ok (P.cellsOf t) w := by
  obtain ⟨i, hi⟩ := Option.isSome_iff_exists.1 h
  simp [sizeOf, typeInfo, hi, Program.cellsOf]
theorem info_of_cells {P : Program} {t : TypeId} (h : P.cellsOf t ≠ 0) : (P.info? t).isSome = true := by
  cases hi : P.info? t with
  | none => simp [Program.cellsOf, hi] at h
  | some i => rfl
theorem run_isAgg' {P : Program} {t : TypeId} (h : (P.underlying t).isSome = true) (w : World) : (isAgg t).run P w = .ok (tagg P t) w := by
  obtain ⟨d, hd⟩ := Option.isSome_iff_exists.1 h
  unfold isAgg
  rw [Sem.run_bind, run_underlying hd]
  cases d <;> simp [tagg, hd]
theorem tagg_some {P : Program} {t : TypeId} (h : tagg P t = true) : (P.underlying t).isSome = true := by
  cases hd : P.underlying t with
  | none => simp [tagg, hd] at h
  | some d => rfl
theorem add_none (b o j : Nat) : (⟨b, o, none⟩ : Addr).add j = ⟨b, o + j, none⟩ := by unfold Addr.add; split <;> simp_all

theorem Row.cell {w : World} {g : Nat} {cur : Array Value} (h : Row w g cur) (j : Nat) : w.cell? ⟨g, j, none⟩ = cur[j]? := by
  obtain ⟨t, fr, h, _⟩ := h
  exact cell_of_row w g j cur t fr h

theorem pickP_sound {P : Program} {w : World} {β : Nat → Option Nat} {F : Nat → Prop} {c a b : List Prop × Av} {vc va vb : Value} {ps : List Prop} {x : Av} (h : pickP c a b = some (ps, x)) (hp : AllP ps)
    (hc : AllP c.1 → AvR β F w c.2 vc) (ha : AllP a.1 → AvR β F w a.2 va) (hb : AllP b.1 → AvR β F w b.2 vb) : ∃ z, (do pure (Next.value (if ← asBool vc then va else vb)) : Sem Next).run P w = .ok (.value z) w ∧ AvR β F w x z := by
  obtain ⟨pc, xc⟩ := c; obtain ⟨pa, xa⟩ := a; obtain ⟨pb, xb⟩ := b
  unfold pickP at h
  split at h
  · rename_i pc x pa y pb z h1 h2 h3
    simp only [Prod.mk.injEq] at h1 h2 h3
    obtain ⟨rfl, rfl⟩ := h1; obtain ⟨rfl, rfl⟩ := h2; obtain ⟨rfl, rfl⟩ := h3
    simp only [Option.some.injEq, Prod.mk.injEq] at h
    obtain ⟨rfl, rfl⟩ := h
    obtain rfl := (hc hp.left).val
    have hr := hp.right
    cases x with
    | true =>
      obtain rfl := (ha (impP_out hr.left rfl)).val
      exact ⟨_, by simp [asBool], .c (.lf (.v _ rfl))⟩
    | false =>
      obtain rfl := (hb (impP_out hr.right rfl)).val
      exact ⟨_, by simp [asBool], .c (.lf (.v _ rfl))⟩
  · cases h

theorem binV_one {nw : Bool} {P : Program} {op : BinOp} {t : TypeId} {u v z : Value} {ps : List Prop} (h : binV nw P op t u v = some (ps, z)) : z.oneCell' = true := by
  unfold binV at h
  (repeat' split at h) <;> first | (cases h; done) | (simp only [Option.some.injEq, Prod.mk.injEq] at h; obtain ⟨_, rfl⟩ := h; rfl)

theorem binP_sound {nw : Bool} {P : Program} {w : World} {op : BinOp} {t : TypeId} {β : Nat → Option Nat} {F : Nat → Prop} {a b : List Prop × Av} {va vb : Value} {ps : List Prop} {x : Av} (h : binP nw P op t a b = some (ps, x)) (hp : AllP ps)
    (ha : AllP a.1 → AvR β F w a.2 va) (hb : AllP b.1 → AvR β F w b.2 vb) (ox oy : Operand) : ∃ z, (do eqGuard op t ox oy va vb; binOp op t va vb : Sem Value).run P w = .ok z w ∧ AvR β F w x z := by
  obtain ⟨pa, xa⟩ := a; obtain ⟨pb, xb⟩ := b
  unfold binP at h
  split at h
  · rename_i p u q v h1 h2
    simp only [Prod.mk.injEq] at h1 h2
    obtain ⟨rfl, rfl⟩ := h1; obtain ⟨rfl, rfl⟩ := h2
    split at h
    · rename_i r z hz
      simp only [Option.some.injEq, Prod.mk.injEq] at h
      obtain ⟨rfl, rfl⟩ := h
      obtain rfl := (ha hp.left.left).val
      obtain rfl := (hb hp.left.right).val
      exact ⟨_, binV_sound hz hp.right w ox oy, .c (.lf (.v _ (binV_one hz)))⟩
    · cases h
  · cases h

theorem unP_sound {nw : Bool} {P : Program} {w : World} {op : UnOp} {β : Nat → Option Nat} {F : Nat → Prop} {a : List Prop × Av} {va : Value} {ps : List Prop} {x : Av} (h : unP nw op a = some (ps, x)) (hp : AllP ps)
    (ha : AllP a.1 → AvR β F w a.2 va) : ∃ z, (Op.unary op va).run P w = .ok z w ∧ AvR β F w x z := by
  obtain ⟨pa, xa⟩ := a
  unfold unP at h
  split at h
  · rename_i p b h1
    simp only [Prod.mk.injEq] at h1
    obtain ⟨rfl, rfl⟩ := h1
    cases op with
    | not =>
      simp only [Option.some.injEq, Prod.mk.injEq] at h
      obtain ⟨rfl, rfl⟩ := h
      obtain rfl := (ha hp).val
      exact ⟨_, by simp [Op.unary], .c (.lf (.v _ rfl))⟩
    | neg => cases h
    | xor => cases h
    | plus => cases h
  · rename_i p k n h1
    simp only [Prod.mk.injEq] at h1
    obtain ⟨rfl, rfl⟩ := h1
    cases op with
    | neg =>
      dsimp only at h
      split at h <;> (simp only [Option.some.injEq, Prod.mk.injEq] at h; obtain ⟨rfl, rfl⟩ := h)
      · obtain rfl := (ha hp.left).val
        have h2 : k.wrap (0 - n) = -n := hp.right
        exact ⟨_, by simp only [Op.unary, Op.intArith, h2]; rfl, .c (.lf (.v _ rfl))⟩
      · obtain rfl := (ha hp).val
        exact ⟨_, by simp only [Op.unary, Op.intArith]; rfl, .c (.lf (.v _ rfl))⟩
    | xor =>
      dsimp only at h
      simp only [Option.some.injEq, Prod.mk.injEq] at h
      obtain ⟨rfl, rfl⟩ := h
      obtain rfl := (ha hp).val
      exact ⟨_, by simp only [Op.unary, Op.intBits]; rfl, .c (.lf (.v _ rfl))⟩
    | not => cases h
    | plus => cases h
  · cases h

theorem cvtP_sound {nw : Bool} {P : Program} {w : World} {s d : TypeId} {β : Nat → Option Nat} {F : Nat → Prop} {a : List Prop × Av} {va : Value} {ps : List Prop} {x : Av} (h : cvtP nw P s d a = some (ps, x)) (hp : AllP ps)
    (ha : AllP a.1 → AvR β F w a.2 va) : ∃ z, (convert s d va).run P w = .ok z w ∧ AvR β F w x z := by
  obtain ⟨pa, xa⟩ := a
  unfold cvtP at h
  split at h
  · rename_i p k n h1
    simp only [Prod.mk.injEq] at h1
    obtain ⟨rfl, rfl⟩ := h1
    split at h
    · rename_i k' hd
      split at h <;> simp only [Option.some.injEq, Prod.mk.injEq] at h <;> obtain ⟨rfl, rfl⟩ := h
      · obtain rfl := (ha hp.left).val
        have hr := hp.right
        obtain ⟨ds, hs⟩ := Option.isSome_iff_exists.1 hr.1
        have h2 : k'.wrap n = n := hr.2
        exact ⟨_, by simp [convert, run_underlying hs, run_underlying hd, Conv.intToInt, h2], .c (.lf (.v _ rfl))⟩
      · obtain rfl := (ha hp.left).val
        have hr := hp.right
        obtain ⟨ds, hs⟩ := Option.isSome_iff_exists.1 hr
        exact ⟨_, by simp [convert, run_underlying hs, run_underlying hd, Conv.intToInt], .c (.lf (.v _ rfl))⟩
    · cases h
  · cases h

theorem loadCells_row {P : Program} {w : World} {b o : Nat} {cs : List Value} (h : ∀ (j : Nat) (v : Value), cs[j]? = some v → w.cell? ⟨b, o + j, none⟩ = some v) {n : Nat} (hn : n = cs.length) : (loadCells ⟨b, o, none⟩ n).run P w = .ok cs.toArray w := by
  subst hn
  exact run_loadCells_list w ⟨b, o, none⟩ cs fun j v hv => by rw [add_none]; exact h j v hv

theorem loadP_sound {P : Program} {E : Env} {σ : St} {a : Act} {w : World} {t : TypeId} {β : Nat → Option Nat} {F : Nat → Prop} {x : List Prop × Av} {v : Value} {ps : List Prop} {y : Av} (h : loadP P σ t x = some (ps, y)) (hp : AllP ps)
    (hS : SRb E β F σ a w) (hx : AllP x.1 → AvR β F w x.2 v) : ∃ z, (Instr.loadAt t v).run P w = .ok z w ∧ AvR β F w y z := by
  obtain ⟨p, x⟩ := x
  unfold loadP at h
  split at h
  · rename_i p' j off h1
    simp only [Prod.mk.injEq] at h1
    obtain ⟨rfl, rfl⟩ := h1
    split at h
    · -- cells
      rename_i cs hb
      have hB := hS.hp j
      rw [hb] at hB
      obtain ⟨g, cur, hg, hrow, hsz, hcs⟩ := hB
      split at h
      · rename_i htg
        simp only [Option.some.injEq, Prod.mk.injEq] at h
        obtain ⟨rfl, rfl⟩ := h
        have hr := hp.right
        have hv := hx hp.left
        cases hv with | c hv => cases hv with | ptr _ _ g' hg' =>
        rw [hg] at hg'
        obtain rfl := Option.some.inj hg'
        have hlen : off + P.cellsOf t ≤ cur.size := by rw [hsz]; exact hr.1
        have hl := loadCells_row (P := P) (w := w) (b := g) (o := off) (cs := (cur.toList.drop off).take (P.cellsOf t)) (n := P.cellsOf t) (fun i u hu => by
          rw [hrow.cell]
          rw [List.getElem?_take] at hu
          split at hu
          · simpa using hu
          · cases hu) (by simp; omega)
        refine ⟨.agg ((cur.toList.drop off).take (P.cellsOf t)).toArray, ?_, ?_⟩
        · simp only [Instr.loadAt, Instr.sureAddr, loadVar, Sem.run_bind, Sem.run_pure, Result.andThen_ok, run_isAgg' (tagg_some htg), htg, if_true, Sem.run_ite, run_sizeOf' hr.2, hl]
        · refine .agg _ _ (by simp; omega) fun i x u hxi hui => ?_
          rw [List.getElem?_take] at hxi
          split at hxi
          · rename_i hlt
            rw [List.getElem?_drop] at hxi
            refine hcs (off + i) x u hxi ?_
            simp only [List.getElem?_toArray, List.getElem?_take, hlt, if_true, List.getElem?_drop] at hui
            simpa using hui
          · cases hxi
      · rename_i htg
        split at h
        · rename_i x hxo
          simp only [Option.some.injEq, Prod.mk.injEq] at h
          obtain ⟨rfl, rfl⟩ := h
          have hr : (P.underlying t).isSome = true := hp.right
          have hv := hx hp.left
          cases hv with | c hv => cases hv with | ptr _ _ g' hg' =>
          rw [hg] at hg'
          obtain rfl := Option.some.inj hg'
          have hlt : off < cur.size := by rw [hsz]; exact (List.getElem?_eq_some_iff.1 hxo).1
          have hcell : w.cell? ⟨g, off, none⟩ = some cur[off] := by rw [hrow.cell]; simp [hlt]
          refine ⟨cur[off], ?_, .c (hcs off x _ hxo (by simp [hlt]))⟩
          simp only [Instr.loadAt, Instr.sureAddr, loadVar, Sem.run_bind, Sem.run_pure, Result.andThen_ok, run_isAgg' hr, htg, Sem.run_ite, run_load, hcell]
          rfl
        · cases h
    · -- a row of numbers
      rename_i k l hb
      have hB := hS.hp j
      rw [hb] at hB
      split at h
      · rename_i htg
        simp only [Option.some.injEq, Prod.mk.injEq] at h
        obtain ⟨rfl, rfl⟩ := h
        obtain ⟨rfl, hsz, hne⟩ := hp.right
        have hv := hx hp.left
        cases hv with | c hv => cases hv with | ptr _ _ g' hg' =>
        rcases hB with ⟨h0, _⟩ | ⟨g, cur, hg, hrow, hcs⟩
        · exact absurd h0 hne
        · rw [hg] at hg'
          obtain rfl := Option.some.inj hg'
          have hl := loadCells_row (P := P) (w := w) (b := g) (o := 0) (cs := l.map (Value.int k)) (n := P.cellsOf t) (fun i u hu => by
            rw [List.getElem?_map, Option.map_eq_some_iff] at hu
            obtain ⟨z, hz, rfl⟩ := hu
            rw [hrow.cell]
            simpa using hcs i z hz) (by simp; omega)
          have hi : (P.info? t).isSome = true := info_of_cells (by rw [hsz]; intro h0; exact hne (List.eq_nil_of_length_eq_zero h0))
          refine ⟨_, ?_, .ai k l⟩
          simp only [Instr.loadAt, Instr.sureAddr, loadVar, Sem.run_bind, Sem.run_pure, Result.andThen_ok, run_isAgg' (tagg_some htg), htg, if_true, Sem.run_ite, run_sizeOf' hi, hl]
      · rename_i htg
        simp only [Option.some.injEq, Prod.mk.injEq] at h
        obtain ⟨rfl, rfl⟩ := h
        obtain ⟨hlt, hr⟩ := hp.right
        have hv := hx hp.left
        cases hv with | c hv => cases hv with | ptr _ _ g' hg' =>
        rcases hB with ⟨h0, _⟩ | ⟨g, cur, hg, hrow, hcs⟩
        · subst h0; simp at hlt
        · rw [hg] at hg'
          obtain rfl := Option.some.inj hg'
          have hcell : w.cell? ⟨g, off, none⟩ = some (.int k (l.getD off 0)) := by rw [hrow.cell]; exact hcs off _ (by simp [hlt])
          refine ⟨_, ?_, .c (.lf (.v _ rfl))⟩
          simp only [Instr.loadAt, Instr.sureAddr, loadVar, Sem.run_bind, Sem.run_pure, Result.andThen_ok, run_isAgg' hr, htg, Sem.run_ite, run_load, hcell]
          rfl
    · cases h
  · rename_i p' cs h1
    simp only [Prod.mk.injEq] at h1
    obtain ⟨rfl, rfl⟩ := h1
    split at h
    · rename_i htg
      simp only [Option.some.injEq, Prod.mk.injEq] at h
      obtain ⟨rfl, rfl⟩ := h
      obtain ⟨hle, hi⟩ := hp.right
      have hv := hx hp.left
      cases hv with | c hv => cases hv with | lf hv => cases hv with | obj _ b o vs hF hc hv =>
      have hl := loadCells_row (P := P) (w := w) (b := b) (o := o) (cs := (List.range (P.cellsOf t)).map vs) (n := P.cellsOf t) (fun i u hu => by
        rw [List.getElem?_map, Option.map_eq_some_iff] at hu
        obtain ⟨z, hz, rfl⟩ := hu
        have hz' := List.getElem?_eq_some_iff.1 hz
        obtain ⟨hlt, hz'⟩ := hz'
        simp at hlt hz'
        subst hz'
        have : i < cs.length := by omega
        exact hc i cs[i] (by simp [this])) (by simp)
      refine ⟨.agg ((List.range (P.cellsOf t)).map vs).toArray, by simp only [Instr.loadAt, Instr.sureAddr, loadVar, Sem.run_bind, Sem.run_pure, Result.andThen_ok, run_isAgg' (tagg_some htg), htg, if_true, Sem.run_ite, run_sizeOf' hi, hl], ?_⟩
      refine .agg _ _ (by simp; omega) fun i x u hxi hui => ?_
      rw [List.getElem?_map, Option.map_eq_some_iff] at hxi
      obtain ⟨y, hy, rfl⟩ := hxi
      rw [List.getElem?_take] at hy
      split at hy
      · rename_i hlt
        simp [hlt] at hui
        subst hui
        exact .lf (hv i y hy)
      · cases hy
    · rename_i htg
      split at h
      · rename_i x xs
        simp only [Option.some.injEq, Prod.mk.injEq] at h
        obtain ⟨rfl, rfl⟩ := h
        have hr : (P.underlying t).isSome = true := hp.right
        have hv := hx hp.left
        cases hv with | c hv => cases hv with | lf hv => cases hv with | obj _ b o vs hF hc hv =>
        have hcell : w.cell? ⟨b, o, none⟩ = some (vs 0) := by simpa using hc 0 x rfl
        refine ⟨vs 0, ?_, .c (.lf (hv 0 x rfl))⟩
        simp only [Instr.loadAt, Instr.sureAddr, loadVar, Sem.run_bind, Sem.run_pure, Result.andThen_ok, run_isAgg' hr, htg, Sem.run_ite, run_load, hcell]
        rfl
      · cases h
  · cases h

theorem nilP_sound {P : Program} {o : Oper} {ρ : Operand → Value} {w : World} {β : Nat → Option Nat} {F : Nat → Prop} {x : List Prop × Av} {ox : Operand} {ps : List Prop} {y : Av} (h : nilP x = some (ps, y)) (hp : AllP ps)
    (hx : AllP x.1 → AvR β F w x.2 (ρ ox)) (ho : o.op = .nilCheck ox) : ∃ z, (execOp ρ o).run P w = .ok (.value z) w ∧ AvR β F w y z := by
  obtain ⟨p, x⟩ := x
  unfold nilP at h
  split at h
  · rename_i h1
    simp only [Prod.mk.injEq] at h1; obtain ⟨rfl, rfl⟩ := h1
    simp only [Option.some.injEq, Prod.mk.injEq] at h; obtain ⟨rfl, rfl⟩ := h
    have hv := hx hp
    generalize hvv : ρ ox = v at hv
    dsimp only at hv
    have hv' := hv
    cases hv with | c hv => cases hv with | ptr _ _ g' hg' =>
    exact ⟨_, by simp [execOp, ho, hvv], hv'⟩
  · rename_i h1
    simp only [Prod.mk.injEq] at h1; obtain ⟨rfl, rfl⟩ := h1
    simp only [Option.some.injEq, Prod.mk.injEq] at h; obtain ⟨rfl, rfl⟩ := h
    have hv := hx hp
    generalize hvv : ρ ox = v at hv
    dsimp only at hv
    have hv' := hv
    cases hv with | c hv => cases hv with | pel _ _ _ _ g' hg' =>
    exact ⟨_, by simp [execOp, ho, hvv], hv'⟩
  · rename_i h1
    simp only [Prod.mk.injEq] at h1; obtain ⟨rfl, rfl⟩ := h1
    simp only [Option.some.injEq, Prod.mk.injEq] at h; obtain ⟨rfl, rfl⟩ := h
    have hv := hx hp
    generalize hvv : ρ ox = v at hv
    dsimp only at hv
    have hv' := hv
    cases hv with | c hv => cases hv with | lf hv => cases hv with | obj =>
    exact ⟨_, by simp [execOp, ho, hvv], hv'⟩
  · cases h

theorem fieldP_sound {P : Program} {w : World} {s : TypeId} {f : Nat} {β : Nat → Option Nat} {F : Nat → Prop} {x : List Prop × Av} {v : Value} {ps : List Prop} {y : Av} (h : fieldP P s f x = some (ps, y)) (hp : AllP ps)
    (hx : AllP x.1 → AvR β F w x.2 v) : ∃ z, (Instr.fieldAt s v f).run P w = .ok z w ∧ AvR β F w y z := by
  obtain ⟨p, x⟩ := x
  unfold fieldP at h
  dsimp only at h hx
  split at h
  · rename_i fs hs
    split at h
    · rename_i fd hfd
      have key : ∀ (b o : Nat), P.cellsOf fd.type ≠ 0 → v = .pointer (some ⟨b, o, none⟩) → (Instr.fieldAt s v f).run P w = .ok (.pointer (some ⟨b, o + fd.offset, none⟩)) w := by
        intro b o hne hv
        subst hv
        simp [Instr.fieldAt, run_underlying hs, hfd, Instr.sureAddr, fieldPlace, run_sizeOf' (info_of_cells hne), hne, add_none]
      split at h
      · simp only [Option.some.injEq, Prod.mk.injEq] at h; obtain ⟨rfl, rfl⟩ := h
        have hv := hx hp.left
        cases hv with | c hv => cases hv with | ptr _ off g' hg' =>
        exact ⟨_, key _ _ hp.right rfl, .c (.ptr _ _ _ hg')⟩
      · simp only [Option.some.injEq, Prod.mk.injEq] at h; obtain ⟨rfl, rfl⟩ := h
        have hv := hx hp.left
        cases hv with | c hv => cases hv with | lf hv => cases hv with | obj cs b o vs hF hc hv =>
        refine ⟨_, key _ _ hp.right rfl, .c (.lf (.obj _ b (o + fd.offset) (fun j => vs (fd.offset + j)) hF (fun j x hj => ?_) (fun j x hj => ?_)))⟩
        · rw [List.getElem?_drop] at hj
          rw [Nat.add_assoc]; exact hc _ x hj
        · rw [List.getElem?_drop] at hj
          exact hv _ x hj
      · simp only [Option.some.injEq, Prod.mk.injEq] at h; obtain ⟨rfl, rfl⟩ := h
        have hv := hx hp.left
        cases hv with | c hv => cases hv with | pel _ sz i k g' hg' =>
        exact ⟨_, key _ _ hp.right rfl, .c (by rw [Nat.add_assoc]; exact .pel _ _ _ _ _ hg')⟩
      · cases h
    · cases h
  · cases h

/-- '&x[i]' of numbers. -/
def indexP (P : Program) (σ : St) (t : TypeId) : List Prop × Av → List Prop × Av → Option (List Prop × Av)
  | (p, x), (q, .c (.lf (.v (.int ki i)))) =>
    match P.underlying t with
    | some (.slice e) =>
      match x with
      | .c (.lf (.ints k l)) => some ((p ++ q) ++ [0 ≤ i, i < (l.length : Int), P.cellsOf e = 1], .c (.lf (.obj [.v (.int k (l.getD i.toNat 0))])))
      | .c (.own j sz off len) =>
        match sz with
        | 1 => some ((p ++ q) ++ [0 ≤ i, i < (len : Int), P.cellsOf e = 1], .c (.ptr j (off + i.toNat)))
        | _ => some ((p ++ q) ++ [0 ≤ i, i < (len : Int), P.cellsOf e = sz, off = 0, sz ≠ 0], .c (.pel j sz i.toNat 0))
      | _ => none
    | some (.array n e) =>
      match x with
      | .c (.ptr j off) => some ((p ++ q) ++ [0 ≤ i, i < (n : Int), P.cellsOf e = 1], .c (.ptr j (off + i.toNat)))
      | _ => none
    | _ => none
  | _, _ => none

theorem indexP_sound {P : Program} {σ : St} {w : World} {t : TypeId} {β : Nat → Option Nat} {F : Nat → Prop} {x q : List Prop × Av} {v u : Value} {ps : List Prop} {y : Av} (h : indexP P σ t x q = some (ps, y)) (hp : AllP ps)
    (hx : AllP x.1 → AvR β F w x.2 v) (hq : AllP q.1 → AvR β F w q.2 u) : ∃ z, (Instr.indexAt t v u).run P w = .ok z w ∧ AvR β F w y z := by
  obtain ⟨p, x⟩ := x
  unfold indexP at h
  split at h
  · rename_i p' x' q' ki i h1
    simp only [Prod.mk.injEq] at h1
    obtain ⟨rfl, rfl⟩ := h1
    split at h
    · rename_i e ht
      split at h
      · rename_i k l
        simp only [Option.some.injEq, Prod.mk.injEq] at h; obtain ⟨rfl, rfl⟩ := h
        obtain rfl := (hq hp.left.right).val
        obtain ⟨h0, h1, h2⟩ := hp.right
        have hv := hx hp.left.left
        cases hv with | c hv => cases hv with | lf hv => cases hv with | ints _ _ a n c hn hc hm hh =>
        subst hn
        have hlt : i.toNat < l.length := by omega
        obtain ⟨b, o, rfl, hF, hcell⟩ := hh (by intro h; subst h; simp at hlt)
        have hi : (P.info? e).isSome = true := info_of_cells (by rw [show P.cellsOf e = 1 from h2]; decide)
        refine ⟨.pointer (some ⟨b, o + i.toNat, none⟩), ?_, .c (.lf (.obj _ _ _ (fun _ => .int k (l.getD i.toNat 0)) hF (fun j x hj => ?_) (fun j x hj => ?_)))⟩
        · have h3 : P.cellsOf e = 1 := h2
          simp [Instr.indexAt, asIntOf, run_underlying ht, h0, h1, run_sizeOf' hi, h3, add_none]
        · match j, hj with
          | 0, hj => exact hcell _ _ (by simp [hlt])
        · match j, hj with
          | 0, hj => simp at hj; subst hj; simpa [hlt] using LfR.v (F := F) (w := w) (.int k (l.getD i.toNat 0)) rfl
      · rename_i j sz off len
        split at h
        · simp only [Option.some.injEq, Prod.mk.injEq] at h; obtain ⟨rfl, rfl⟩ := h
          obtain rfl := (hq hp.left.right).val
          obtain ⟨h0, h1, h2⟩ := hp.right
          have hv := hx hp.left.left
          cases hv with | c hv => cases hv with | own _ _ _ _ a c hc hm hh =>
          rcases hh with rfl | ⟨g, hg, rfl, hcap⟩
          · omega
          · have h3 : P.cellsOf e = 1 := h2
            have hi : (P.info? e).isSome = true := info_of_cells (by rw [h3]; decide)
            exact ⟨.pointer (some ⟨g, off + i.toNat, none⟩), by simp [Instr.indexAt, asIntOf, run_underlying ht, h0, h1, run_sizeOf' hi, h3, add_none], .c (.ptr _ _ _ hg)⟩
        · rename_i hsz
          simp only [Option.some.injEq, Prod.mk.injEq] at h; obtain ⟨rfl, rfl⟩ := h
          obtain rfl := (hq hp.left.right).val
          obtain ⟨h0, h1, h2, h3, h4⟩ := hp.right
          have hv := hx hp.left.left
          cases hv with | c hv => cases hv with | own _ _ _ _ a c hc hm hh =>
          rcases hh with rfl | ⟨g, hg, rfl, hcap⟩
          · omega
          · have h4' : sz ≠ 0 := h4
            have hi : (P.info? e).isSome = true := info_of_cells (by rw [h2]; exact h4')
            subst h3
            exact ⟨.pointer (some ⟨g, i.toNat * sz + 0, none⟩), by simp [Instr.indexAt, asIntOf, run_underlying ht, h0, h1, run_sizeOf' hi, h2, add_none], .c (.pel _ _ _ _ _ hg)⟩
      · cases h
    · rename_i n e ht
      split at h
      · rename_i j off
        simp only [Option.some.injEq, Prod.mk.injEq] at h; obtain ⟨rfl, rfl⟩ := h
        obtain rfl := (hq hp.left.right).val
        obtain ⟨h0, h1, h2⟩ := hp.right
        have hv := hx hp.left.left
        cases hv with | c hv => cases hv with | ptr _ _ g hg =>
        have h3 : P.cellsOf e = 1 := h2
        have hi : (P.info? e).isSome = true := info_of_cells (by rw [h3]; decide)
        exact ⟨.pointer (some ⟨g, off + i.toNat, none⟩), by simp [Instr.indexAt, Instr.sureAddr, asIntOf, run_underlying ht, h0, h1, run_sizeOf' hi, h3, add_none], .c (.ptr _ _ _ hg)⟩
      · cases h
    · cases h
  · cases h

end Go.Sx

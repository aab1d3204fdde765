/-
  The function of all pure operations, its soundness, and the walk's rule for them. No condition.
-/
import Derived.Test.YtppmfjopokkhmaaSxE
namespace Go.Sx
open Go
set_option linter.unusedVariables false

/-- The zero cells of a type. -/
def zeroC (P : Program) (t : TypeId) : Option (List Cell) :=
  match P.info? t with
  | some i => match i.zero with | some z => some (z.cells.toList.map fun x => .lf (.v x)) | none => none
  | none => none
def zeroOk (P : Program) (t : TypeId) : Prop := ∀ i z, P.info? t = some i → i.zero = some z → z.cells.toList.all (·.oneCell') = true

theorem zeroC_sound {P : Program} {t : TypeId} {cs : List Cell} (h : zeroC P t = some cs) (hz : zeroOk P t) (β : Nat → Option Nat) (F : Nat → Prop) (w : World) :
    ∃ z, (zeroValue t).run P w = .ok z w ∧ z.cells.size = cs.length ∧ ∀ (i : Nat) (y : Cell) (u : Value), cs[i]? = some y → z.cells[i]? = some u → CellR β F w y u := by
  unfold zeroC at h
  split at h
  · rename_i i hi
    split at h
    · rename_i z hz'
      simp only [Option.some.injEq] at h
      subst h
      refine ⟨z, by simp [zeroValue, typeInfo, hi, hz'], by simp, fun j y u hy hu => ?_⟩
      simp only [List.getElem?_map, Option.map_eq_some_iff] at hy
      obtain ⟨x, hx, rfl⟩ := hy
      have : z.cells[j]? = some x := by simpa using hx
      rw [this] at hu
      obtain rfl := Option.some.inj hu
      exact .lf (.v _ (List.all_eq_true.1 (hz i z hi hz') x (List.mem_of_getElem? hx)))
    · cases h
  · cases h

/-- A struct out of its parts. -/
def buildP (P : Program) (t : TypeId) (parts : List (Nat × (List Prop × Av))) : Option (List Prop × Av) :=
  match P.underlying t, zeroC P t with
  | some (.struct fs), some cs =>
    match fillA (fun i => match fs[i]? with | some f => some (f.offset, P.cellsOf f.type) | none => none) cs parts with
    | some (ps, out) => some (ps ++ [zeroOk P t, ∀ f ∈ fs.toList, (P.info? f.type).isSome = true], .agg out)
    | none => none
  | _, _ => none

theorem mapM_places {P : Program} {w : World} (fs : List Field) (h : ∀ f ∈ fs, (P.info? f.type).isSome = true) :
    (fs.mapM (m := Sem) fun f => do pure (f.offset, ← sizeOf f.type)).run P w = .ok (fs.map fun f => (f.offset, P.cellsOf f.type)) w := by
  induction fs with
  | nil => simp only [List.mapM_nil, Sem.run_pure, List.map_nil]
  | cons f fs ih =>
    simp only [List.mapM_cons, Sem.run_bind, run_sizeOf' (h f (List.mem_cons_self ..)), Result.andThen_ok, Sem.run_pure, ih (fun g hg => h g (List.mem_cons_of_mem _ hg)), List.map_cons]

theorem buildP_sound {P : Program} {w : World} {t : TypeId} {β : Nat → Option Nat} {F : Nat → Prop} {parts : List (Nat × (List Prop × Av))} {vals : List (Nat × Value)} {ps : List Prop} {y : Av} (h : buildP P t parts = some (ps, y)) (hp : AllP ps)
    (hv : PartsR β F w parts vals) : ∃ z, (Instr.build t vals.toArray).run P w = .ok z w ∧ AvR β F w y z := by
  unfold buildP at h
  split at h
  · rename_i fs cs ht hz
    split at h
    · rename_i qs out hf
      simp only [Option.some.injEq, Prod.mk.injEq] at h
      obtain ⟨rfl, rfl⟩ := h
      obtain ⟨c1, c2⟩ := hp.right
      have c2' : ∀ f ∈ fs.toList, (P.info? f.type).isSome = true := c2
      obtain ⟨z, hz1, hz2, hz3⟩ := zeroC_sound hz c1 β F w
      obtain ⟨r, g1, g2, g3⟩ := fillA_sound parts vals cs z.cells qs out hf hp.left hz2 hz3 hv
      have e : (fs.mapM (m := Sem) fun f => do pure (f.offset, ← sizeOf f.type)).run P w = .ok (fs.map fun f => (f.offset, P.cellsOf f.type)) w := by
        rw [Array.mapM_eq_mapM_toList]
        simp only [Sem.run_map, mapM_places fs.toList c2', Result.andThen_ok]
        congr 1
        apply Array.toList_inj.1
        simp
      have hpl : (fun (i : Nat) => (fs.map fun (f : Field) => (f.offset, P.cellsOf f.type))[i]?) = (fun i => match fs[i]? with | some f => some (f.offset, P.cellsOf f.type) | none => none) := by
        funext i
        simp only [Array.getElem?_map]
        cases fs[i]? <;> rfl
      refine ⟨.agg r, ?_, .agg _ _ g2 g3⟩
      simp only [Instr.build, Sem.run_bind, hz1, Result.andThen_ok, run_underlying ht, e]
      simp only [hpl, g1]
      rfl
    · cases h
  · cases h

/-- The cells of the operands that a function value holds. -/
def cellsP : List (List Prop × Av) → Option (List Prop × List Cell)
  | [] => some ([], [])
  | (p, .c x) :: rest =>
    match isUn (.c x), cellsP rest with
    | false, some (q, xs) => some (p ++ q, x :: xs)
    | _, _ => none
  | _ :: _ => none

def ListR (β : Nat → Option Nat) (F : Nat → Prop) (w : World) : List (List Prop × Av) → List Value → Prop
  | [], [] => True
  | (p, x) :: r, v :: s => (AllP p → AvR β F w x v) ∧ ListR β F w r s
  | _, _ => False

theorem cellsP_sound {β : Nat → Option Nat} {F : Nat → Prop} {w : World} : ∀ (xs : List (List Prop × Av)) (vs : List Value) (ps : List Prop) (cs : List Cell), cellsP xs = some (ps, cs) → AllP ps → ListR β F w xs vs →
    vs.length = cs.length ∧ ∀ (i : Nat) (y : Cell) (u : Value), cs[i]? = some y → vs[i]? = some u → CellR β F w y u
  | [], vs, ps, cs, h, hp, hv => by
    cases vs with
    | cons => exact hv.elim
    | nil =>
      simp only [cellsP, Option.some.injEq, Prod.mk.injEq] at h
      obtain ⟨_, rfl⟩ := h
      exact ⟨rfl, fun i y u hy => by simp at hy⟩
  | (p, x) :: rest, vs, ps, cs, h, hp, hv => by
    cases vs with | nil => exact hv.elim | cons v vs =>
    obtain ⟨hx, hv⟩ := hv
    cases x <;> simp only [cellsP] at h
    · rename_i x
      split at h
      · rename_i q xs e1 e2
        simp only [Option.some.injEq, Prod.mk.injEq] at h
        obtain ⟨rfl, rfl⟩ := h
        obtain ⟨k1, k2⟩ := cellsP_sound rest vs q xs e2 hp.right hv
        refine ⟨by simp [k1], fun i y u hy hu => ?_⟩
        match i, hy, hu with
        | 0, hy, hu =>
          simp at hy hu
          subst hy; subst hu
          have := hx hp.left
          cases this with
          | c h => exact h
          | any => simp [isUn] at e1
        | i + 1, hy, hu => exact k2 i y u (by simpa using hy) (by simpa using hu)
      · cases h
    all_goals cases h

def funP (f : Fn) (first cap : List (List Prop × Av)) : Option (List Prop × Av) :=
  match cellsP first, cellsP cap with
  | some (p, xs), some (q, ys) => some (p ++ q, .c (.fn f xs ys))
  | _, _ => none

def ox (σ : St) (x : Operand) : List Prop × Av := str (ev σ x)

/-- All pure operations. -/
def pureOp (nw : Bool) (P : Program) (σ : St) (o : Oper) : Option (List Prop × Av) :=
  match o.op with
  | .move x => some (ox σ x)
  | .assign x => some (ox σ x)
  | .pick c a b => pickP (ox σ c) (ox σ a) (ox σ b)
  | .binOp op t x y _ => binP nw P op t (ox σ x) (ox σ y)
  | .unOp op _ x => unP nw op (ox σ x)
  | .convert s d x => cvtP nw P s d (ox σ x)
  | .load t x => loadP P σ t (ox σ x)
  | .nilCheck x => nilP (ox σ x)
  | .makeFunc f first cap => funP f (first.toList.map (ox σ)) (cap.toList.map (ox σ))
  | .slice t x lo hi mx => sliceP P σ t (ox σ x) (lo.map (ox σ)) (hi.map (ox σ)) (mx.map (ox σ))
  | .fieldAddr s x f => fieldP P s f (ox σ x)
  | .field t x f => fldP P t f (ox σ x)
  | .indexAddr t x i => indexP P σ t (ox σ x) (ox σ i)
  | .index t x i => idxP P t (ox σ x) (ox σ i)
  | .extract x i => extP i (ox σ x)
  | .build t parts => buildP P t (parts.toList.map fun (i, x) => (i, ox σ x))
  | .call c =>
    match c.callee, c.args.toList, c.argTypes.toList with
    | .builtin .len, [x], [t] => lenP P t (ox σ x)
    | .builtin .min, [x, y], _ => mmP false (ox σ x) (ox σ y)
    | .builtin .max, [x, y], _ => mmP true (ox σ x) (ox σ y)
    | _, _, _ => none
  | _ => none

theorem oxR {E : Env} {β : Nat → Option Nat} {F : Nat → Prop} {σ : St} {a : Act} {w : World} (h : SRb E β F σ a w) (x : Operand) : AllP (ox σ x).1 → AvR β F w (ox σ x).2 (a.eval x) :=
  fun hp => strR (h.ev x) rfl hp

theorem listR_map {E : Env} {β : Nat → Option Nat} {F : Nat → Prop} {σ : St} {a : Act} {w : World} (h : SRb E β F σ a w) : ∀ l : List Operand, ListR β F w (l.map (ox σ)) (l.map a.eval)
  | [] => trivial
  | x :: l => ⟨oxR h x, listR_map h l⟩
theorem partsR_map {E : Env} {β : Nat → Option Nat} {F : Nat → Prop} {σ : St} {a : Act} {w : World} (h : SRb E β F σ a w) : ∀ l : List (Nat × Operand), PartsR β F w (l.map fun (i, x) => (i, ox σ x)) (l.map fun (i, x) => (i, a.eval x))
  | [] => trivial
  | (i, x) :: l => ⟨rfl, oxR h x, partsR_map h l⟩
theorem optR_map {E : Env} {β : Nat → Option Nat} {F : Nat → Prop} {σ : St} {a : Act} {w : World} (h : SRb E β F σ a w) (x : Option Operand) : OptR β F w (x.map (ox σ)) (x.map a.eval) := by
  cases x with
  | none => exact .inl ⟨rfl, rfl⟩
  | some x => exact .inr ⟨_, _, _, rfl, rfl, oxR h x⟩

theorem run_v {P : Program} {w : World} {s : Sem Value} {z : Value} (h : s.run P w = .ok z w) : (do pure (Next.value (← s)) : Sem Next).run P w = .ok (.value z) w := by
  rw [Sem.run_bind, h]; rfl

theorem pureOp_sound {nw : Bool} {P : Program} {E : Env} {σ : St} {a : Act} {w : World} {β : Nat → Option Nat} {F : Nat → Prop} {o : Oper} {ps : List Prop} {y : Av} (h : pureOp nw P σ o = some (ps, y)) (hp : AllP ps) (hS : SRb E β F σ a w) :
    ∃ z, (execOp a.eval o).run P w = .ok (.value z) w ∧ AvR β F w y z := by
  unfold pureOp at h
  split at h
  · rename_i x ho
    simp only [Option.some.injEq] at h
    exact ⟨a.eval x, by simp [execOp, ho], by have := oxR hS x; rw [h] at this; exact this hp⟩
  · rename_i x ho
    simp only [Option.some.injEq] at h
    exact ⟨a.eval x, by simp [execOp, ho], by have := oxR hS x; rw [h] at this; exact this hp⟩
  · rename_i c x y ho
    obtain ⟨z, h1, h2⟩ := pickP_sound (P := P) (w := w) (β := β) (F := F) h hp (oxR hS c) (oxR hS x) (oxR hS y)
    exact ⟨z, by simp only [execOp, ho]; exact h1, h2⟩
  · rename_i op t x y _ ho
    obtain ⟨z, h1, h2⟩ := binP_sound h hp (oxR hS x) (oxR hS y) x y
    exact ⟨z, by simp only [execOp, ho]; exact run_v h1, h2⟩
  · rename_i op _ x ho
    obtain ⟨z, h1, h2⟩ := unP_sound (P := P) (w := w) h hp (oxR hS x)
    exact ⟨z, by simp only [execOp, ho]; exact run_v h1, h2⟩
  · rename_i s d x ho
    obtain ⟨z, h1, h2⟩ := cvtP_sound h hp (oxR hS x)
    exact ⟨z, by simp only [execOp, ho]; exact run_v h1, h2⟩
  · rename_i t x ho
    obtain ⟨z, h1, h2⟩ := loadP_sound h hp hS (oxR hS x)
    exact ⟨z, by simp only [execOp, ho]; exact run_v h1, h2⟩
  · rename_i x ho
    exact nilP_sound h hp (oxR hS x) ho
  · rename_i f first cap ho
    unfold funP at h
    split at h
    · rename_i p xs q ys e1 e2
      simp only [Option.some.injEq, Prod.mk.injEq] at h
      obtain ⟨rfl, rfl⟩ := h
      obtain ⟨k1, k2⟩ := cellsP_sound _ _ _ _ e1 hp.left (listR_map hS first.toList)
      obtain ⟨k3, k4⟩ := cellsP_sound _ _ _ _ e2 hp.right (listR_map hS cap.toList)
      refine ⟨.func f (first.map a.eval) (cap.map a.eval), by simp [execOp, ho, Instr.makeFunc], .c (.fn _ _ _ _ _ (by simpa using k1) (by simpa using k3) (fun i x v hx hv => k2 i x v hx ?_) (fun i x v hx hv => k4 i x v hx ?_))⟩
      · simpa using hv
      · simpa using hv
    · cases h
  · rename_i t x lo hi mx ho
    obtain ⟨z, h1, h2⟩ := sliceP_sound h hp hS (oxR hS x) (optR_map hS lo) (optR_map hS hi) (optR_map hS mx)
    exact ⟨z, by simp only [execOp, ho]; exact run_v h1, h2⟩
  · rename_i s x f ho
    obtain ⟨z, h1, h2⟩ := fieldP_sound h hp (oxR hS x)
    exact ⟨z, by simp only [execOp, ho]; exact run_v h1, h2⟩
  · rename_i t x f ho
    obtain ⟨z, h1, h2⟩ := fldP_sound h hp (oxR hS x)
    exact ⟨z, by simp only [execOp, ho]; exact run_v h1, h2⟩
  · rename_i t x i ho
    obtain ⟨z, h1, h2⟩ := indexP_sound h hp (oxR hS x) (oxR hS i)
    exact ⟨z, by simp only [execOp, ho]; exact run_v h1, h2⟩
  · rename_i t x i ho
    obtain ⟨z, h1, h2⟩ := idxP_sound h hp (oxR hS x) (oxR hS i)
    exact ⟨z, by simp only [execOp, ho]; exact run_v h1, h2⟩
  · rename_i x i ho
    obtain ⟨z, h1, h2⟩ := extP_sound (P := P) (w := w) h hp (oxR hS x)
    exact ⟨z, by simp only [execOp, ho]; exact run_v h1, h2⟩
  · rename_i t parts ho
    obtain ⟨z, h1, h2⟩ := buildP_sound h hp (partsR_map hS parts.toList)
    refine ⟨z, ?_, h2⟩
    simp only [execOp, ho]
    refine run_v ?_
    have e : (parts.map fun x => (x.1, a.eval x.2)) = (parts.toList.map fun (i, x) => (i, a.eval x)).toArray := by
      apply Array.toList_inj.1
      simp
    rw [← e] at h1
    exact h1
  · rename_i c ho
    split at h
    · rename_i x t e1 e2 e3
      obtain ⟨z, h1, h2⟩ := lenP_sound (w := w) (ty := o.type) h hp (oxR hS x)
      refine ⟨z, ?_, h2⟩
      have e2' : c.args = #[x] := by apply Array.toList_inj.1; simpa using e2
      have e3' : c.argTypes = #[t] := by apply Array.toList_inj.1; simpa using e3
      simp only [execOp, ho, resolve, e1, e2', e3', Sem.run_bind, Sem.run_pure, Result.andThen_ok, invoke, builtin]
      simp only [List.map_toArray, List.map_cons, List.map_nil, h1, Result.andThen_ok]
    · rename_i tl x y e1 e2
      obtain ⟨z, h1, h2⟩ := mmP_sound (P := P) (w := w) (ts := c.argTypes) (ty := o.type) h hp (oxR hS x) (oxR hS y)
      refine ⟨z, ?_, h2⟩
      have e2' : c.args = #[x, y] := by apply Array.toList_inj.1; simpa using e2
      simp only [execOp, ho, resolve, e1, e2', Sem.run_bind, Sem.run_pure, Result.andThen_ok, invoke, builtin]
      simp only [Bool.false_eq_true, if_false] at h1
      simp only [List.map_toArray, List.map_cons, List.map_nil, h1, Result.andThen_ok]
    · rename_i tl x y e1 e2
      obtain ⟨z, h1, h2⟩ := mmP_sound (P := P) (w := w) (ts := c.argTypes) (ty := o.type) h hp (oxR hS x) (oxR hS y)
      refine ⟨z, ?_, h2⟩
      have e2' : c.args = #[x, y] := by apply Array.toList_inj.1; simpa using e2
      simp only [execOp, ho, resolve, e1, e2', Sem.run_bind, Sem.run_pure, Result.andThen_ok, invoke, builtin]
      simp only [if_true] at h1
      simp only [List.map_toArray, List.map_cons, List.map_nil, h1, Result.andThen_ok]
    · cases h
  · cases h

end Go.Sx

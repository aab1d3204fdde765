/-
  Lengths, parts, tuples, structs by their parts; the function of all pure operations, and its soundness. No condition.
-/
import Derived.Test.YtppmfjopokkhmaaSxD
namespace Go.Sx
open Go
set_option linter.unusedVariables false

/-- The bytes of a string as numbers. -/
def bs (s : ByteArray) : List Int := s.data.toList.map fun b => (b.toNat : Int)

def lenP (P : Program) (t : TypeId) : List Prop × Av → Option (List Prop × Av)
  | (p, .c (.lf (.ints k l))) => some (p ++ [∃ e, P.underlying t = some (.slice e)], lv (.int .i64 l.length))
  | (p, .c (.lf (.recs sz l))) => some (p ++ [∃ e, P.underlying t = some (.slice e)], lv (.int .i64 l.length))
  | (p, .c (.own j sz off len)) => some (p ++ [∃ e, P.underlying t = some (.slice e)], lv (.int .i64 len))
  | (p, .c (.lf (.v (.slice a n c)))) => some (p ++ [∃ e, P.underlying t = some (.slice e)], lv (.int .i64 n))
  | (p, .c (.lf (.v (.string s)))) => some (p ++ [P.underlying t = some .string], lv (.int .i64 s.size))
  | _ => none

theorem lenP_sound {P : Program} {w : World} {t ty : TypeId} {β : Nat → Option Nat} {F : Nat → Prop} {x : List Prop × Av} {v : Value} {ps : List Prop} {y : Av} (h : lenP P t x = some (ps, y)) (hp : AllP ps)
    (hx : AllP x.1 → AvR β F w x.2 v) : ∃ z, (Builtin.len_ #[t] ty #[v]).run P w = .ok z w ∧ AvR β F w y z := by
  obtain ⟨p, x⟩ := x
  unfold lenP at h
  split at h
  · rename_i h1
    simp only [Prod.mk.injEq] at h1; obtain ⟨rfl, rfl⟩ := h1
    simp only [Option.some.injEq, Prod.mk.injEq] at h; obtain ⟨rfl, rfl⟩ := h
    have hv := hx hp.left
    obtain ⟨e, ht⟩ : ∃ e, P.underlying t = some (.slice e) := hp.right
    cases hv with | c hv => cases hv with | lf hv => cases hv with | ints _ _ a n c hn =>
    subst hn
    exact ⟨_, by simp [Builtin.len_, run_underlying ht, goInt], .c (.lf (.v _ rfl))⟩
  · rename_i h1
    simp only [Prod.mk.injEq] at h1; obtain ⟨rfl, rfl⟩ := h1
    simp only [Option.some.injEq, Prod.mk.injEq] at h; obtain ⟨rfl, rfl⟩ := h
    have hv := hx hp.left
    obtain ⟨e, ht⟩ : ∃ e, P.underlying t = some (.slice e) := hp.right
    cases hv with | c hv => cases hv with | lf hv => cases hv with | recs _ _ a n c vs hn =>
    subst hn
    exact ⟨_, by simp [Builtin.len_, run_underlying ht, goInt], .c (.lf (.v _ rfl))⟩
  · rename_i h1
    simp only [Prod.mk.injEq] at h1; obtain ⟨rfl, rfl⟩ := h1
    simp only [Option.some.injEq, Prod.mk.injEq] at h; obtain ⟨rfl, rfl⟩ := h
    have hv := hx hp.left
    obtain ⟨e, ht⟩ : ∃ e, P.underlying t = some (.slice e) := hp.right
    cases hv with | c hv => cases hv with | own =>
    exact ⟨_, by simp [Builtin.len_, run_underlying ht, goInt], .c (.lf (.v _ rfl))⟩
  · rename_i h1
    simp only [Prod.mk.injEq] at h1; obtain ⟨rfl, rfl⟩ := h1
    simp only [Option.some.injEq, Prod.mk.injEq] at h; obtain ⟨rfl, rfl⟩ := h
    obtain rfl := (hx hp.left).val
    obtain ⟨e, ht⟩ : ∃ e, P.underlying t = some (.slice e) := hp.right
    exact ⟨_, by simp [Builtin.len_, run_underlying ht, goInt], .c (.lf (.v _ rfl))⟩
  · rename_i h1
    simp only [Prod.mk.injEq] at h1; obtain ⟨rfl, rfl⟩ := h1
    simp only [Option.some.injEq, Prod.mk.injEq] at h; obtain ⟨rfl, rfl⟩ := h
    obtain rfl := (hx hp.left).val
    have ht : P.underlying t = some .string := hp.right
    exact ⟨_, by simp [Builtin.len_, run_underlying ht, goInt], .c (.lf (.v _ rfl))⟩
  · cases h

/-- min and max of two numbers. -/
def mmP (mx : Bool) : List Prop × Av → List Prop × Av → Option (List Prop × Av)
  | (p, .c (.lf (.v (.int k a)))), (q, .c (.lf (.v (.int k' b)))) => some (p ++ q, lv (.int k (if mx then max a b else min a b)))
  | _, _ => none

theorem ite_min (a b : Int) : (if b < a then b else a) = min a b := by rw [Int.min_def]; split <;> split <;> omega
theorem ite_max (a b : Int) : (if b > a then b else a) = max a b := by rw [Int.max_def]; split <;> split <;> omega

theorem mmP_sound {P : Program} {w : World} {ts : Array TypeId} {ty : TypeId} {mx : Bool} {β : Nat → Option Nat} {F : Nat → Prop} {x y : List Prop × Av} {v u : Value} {ps : List Prop} {z : Av} (h : mmP mx x y = some (ps, z)) (hp : AllP ps)
    (hx : AllP x.1 → AvR β F w x.2 v) (hy : AllP y.1 → AvR β F w y.2 u) : ∃ r, (if mx then Builtin.max_ ts ty #[v, u] else Builtin.min_ ts ty #[v, u]).run P w = .ok r w ∧ AvR β F w z r := by
  obtain ⟨p, x⟩ := x
  obtain ⟨q, y⟩ := y
  unfold mmP at h
  split at h
  · rename_i h1 h2
    simp only [Prod.mk.injEq] at h1 h2; obtain ⟨rfl, rfl⟩ := h1; obtain ⟨rfl, rfl⟩ := h2
    simp only [Option.some.injEq, Prod.mk.injEq] at h; obtain ⟨rfl, rfl⟩ := h
    obtain rfl := (hx hp.left).val
    obtain rfl := (hy hp.right).val
    refine ⟨_, ?_, .c (.lf (.v _ rfl))⟩
    cases mx
    · simp only [Bool.false_eq_true, if_false, Builtin.min_, List.foldlM, Builtin.min2, Sem.run_bind, Sem.run_pure, Result.andThen_ok]
      rw [ite_min]
    · simp only [if_true, Builtin.max_, List.foldlM, Builtin.max2, Sem.run_bind, Sem.run_pure, Result.andThen_ok]
      rw [ite_max]
  · cases h

def extP (i : Nat) : List Prop × Av → Option (List Prop × Av)
  | (p, .tup xs) => match xs[i]? with | some x => some (p ++ (str x).1, (str x).2) | none => none
  | _ => none

theorem extP_sound {P : Program} {w : World} {i : Nat} {β : Nat → Option Nat} {F : Nat → Prop} {x : List Prop × Av} {v : Value} {ps : List Prop} {y : Av} (h : extP i x = some (ps, y)) (hp : AllP ps)
    (hx : AllP x.1 → AvR β F w x.2 v) : ∃ z, (Instr.extract v i).run P w = .ok z w ∧ AvR β F w y z := by
  obtain ⟨p, x⟩ := x
  unfold extP at h
  split at h
  · rename_i h1
    simp only [Prod.mk.injEq] at h1; obtain ⟨rfl, rfl⟩ := h1
    split at h
    · rename_i z hz
      simp only [Option.some.injEq, Prod.mk.injEq] at h; obtain ⟨rfl, rfl⟩ := h
      have hv := hx hp.left
      cases hv with | tup _ cs h1 hc =>
      have hlt : i < cs.size := by rw [h1]; exact (List.getElem?_eq_some_iff.1 hz).1
      refine ⟨cs[i], by simp [Instr.extract, hlt], ?_⟩
      exact strR (hc i z _ hz (by simp [hlt])) rfl hp.right
    · cases h
  · cases h

def fldP (P : Program) (t : TypeId) (f : Nat) : List Prop × Av → Option (List Prop × Av)
  | (p, .agg cs) =>
    match P.underlying t with
    | some (.struct fs) =>
      match fs[f]? with
      | some fd =>
        match tagg P fd.type with
        | true => some (p ++ [fd.offset + P.cellsOf fd.type ≤ cs.length, (P.info? fd.type).isSome = true], .agg ((cs.drop fd.offset).take (P.cellsOf fd.type)))
        | false => match cs[fd.offset]? with | some x => some (p ++ [(P.underlying fd.type).isSome = true], .c x) | none => none
      | none => none
    | _ => none
  | _ => none

theorem fldP_sound {P : Program} {w : World} {t : TypeId} {f : Nat} {β : Nat → Option Nat} {F : Nat → Prop} {x : List Prop × Av} {v : Value} {ps : List Prop} {y : Av} (h : fldP P t f x = some (ps, y)) (hp : AllP ps)
    (hx : AllP x.1 → AvR β F w x.2 v) : ∃ z, (Instr.field t v f).run P w = .ok z w ∧ AvR β F w y z := by
  obtain ⟨p, x⟩ := x
  unfold fldP at h
  split at h
  · rename_i h1
    simp only [Prod.mk.injEq] at h1; obtain ⟨rfl, rfl⟩ := h1
    split at h
    · rename_i fs ht
      split at h
      · rename_i fd hfd
        split at h
        · rename_i htg
          simp only [Option.some.injEq, Prod.mk.injEq] at h; obtain ⟨rfl, rfl⟩ := h
          have hv := hx hp.left
          obtain ⟨h1, h2⟩ := hp.right
          cases hv with | agg _ cv hsz hc =>
          refine ⟨.agg (cv.extract fd.offset (fd.offset + P.cellsOf fd.type)), by simp [Instr.field, run_underlying ht, hfd, asAgg, part, run_isAgg' (tagg_some htg), htg, run_sizeOf' h2], ?_⟩
          refine .agg _ _ (by simp; omega) fun i x u hxi hui => ?_
          rw [List.getElem?_take] at hxi
          split at hxi
          · rename_i hlt
            rw [List.getElem?_drop] at hxi
            rw [Array.getElem?_extract] at hui
            split at hui
            · exact hc _ x u hxi hui
            · cases hui
          · cases hxi
        · rename_i htg
          split at h
          · rename_i z hz
            simp only [Option.some.injEq, Prod.mk.injEq] at h; obtain ⟨rfl, rfl⟩ := h
            have hv := hx hp.left
            have h2 : (P.underlying fd.type).isSome = true := hp.right
            cases hv with | agg _ cv hsz hc =>
            have hlt : fd.offset < cv.size := by rw [hsz]; exact (List.getElem?_eq_some_iff.1 hz).1
            exact ⟨cv[fd.offset], by simp [Instr.field, run_underlying ht, hfd, asAgg, part, run_isAgg' h2, htg, hlt], .c (hc _ z _ hz (by simp [hlt]))⟩
          · cases h
      · cases h
    · cases h
  · cases h

/-- 'x[i]' of a string, of an array's value. -/
def idxP (P : Program) (t : TypeId) : List Prop × Av → List Prop × Av → Option (List Prop × Av)
  | (p, .c (.lf (.v (.string s)))), (q, .c (.lf (.v (.int ki i)))) => some ((p ++ q) ++ [P.underlying t = some .string, 0 ≤ i, i < (s.size : Int)], lv (.int .u8 ((bs s).getD i.toNat 0)))
  | (p, .ai k l), (q, .c (.lf (.v (.int ki i)))) =>
    match P.underlying t with
    | some (.array n e) => some ((p ++ q) ++ [0 ≤ i, i < (n : Int), n ≤ l.length, P.cellsOf e = 1, (P.underlying e).isSome = true, tagg P e = false], lv (.int k (l.getD i.toNat 0)))
    | _ => none
  | _, _ => none

theorem idxP_sound {P : Program} {w : World} {t : TypeId} {β : Nat → Option Nat} {F : Nat → Prop} {x y : List Prop × Av} {v u : Value} {ps : List Prop} {z : Av} (h : idxP P t x y = some (ps, z)) (hp : AllP ps)
    (hx : AllP x.1 → AvR β F w x.2 v) (hy : AllP y.1 → AvR β F w y.2 u) : ∃ r, (Instr.index t v u).run P w = .ok r w ∧ AvR β F w z r := by
  obtain ⟨p, x⟩ := x
  obtain ⟨q, y⟩ := y
  unfold idxP at h
  split at h
  · rename_i s _ _ i h1 h2
    simp only [Prod.mk.injEq] at h1 h2; obtain ⟨rfl, rfl⟩ := h1; obtain ⟨rfl, rfl⟩ := h2
    simp only [Option.some.injEq, Prod.mk.injEq] at h; obtain ⟨rfl, rfl⟩ := h
    obtain rfl := (hx hp.left.left).val
    obtain rfl := (hy hp.left.right).val
    obtain ⟨c1, c2, c3⟩ := hp.right
    have c3' : i < (s.size : Int) := c3
    have hlt : i.toNat < s.size := by omega
    refine ⟨.int .u8 ((bs s).getD i.toNat 0), ?_, .c (.lf (.v _ rfl))⟩
    have e1 : s[i.toNat]? = some s[i.toNat] := by simp [hlt]
    have e2 : (bs s).getD i.toNat 0 = (s[i.toNat].toNat : Int) := by
      have : i.toNat < s.data.size := hlt
      simp only [bs, List.getD_eq_getElem?_getD, List.getElem?_map, Array.getElem?_toList, ByteArray.getElem_eq_getElem_data]
      rw [Array.getElem?_eq_getElem this]
      rfl
    rw [e2]
    simp [Instr.index, asIntOf, run_underlying c1, c2, e1]
  · rename_i k l _ _ i h1 h2
    simp only [Prod.mk.injEq] at h1 h2; obtain ⟨rfl, rfl⟩ := h1; obtain ⟨rfl, rfl⟩ := h2
    split at h
    · rename_i n e ht
      simp only [Option.some.injEq, Prod.mk.injEq] at h; obtain ⟨rfl, rfl⟩ := h
      have hv := hx hp.left.left
      obtain rfl := (hy hp.left.right).val
      obtain ⟨c1, c2, c3, c4, c5, c6⟩ := hp.right
      have c6' : tagg P e = false := c6
      cases hv with | ai =>
      have hi : (P.info? e).isSome = true := info_of_cells (by rw [c4]; decide)
      have hlt : i.toNat < l.length := by omega
      exact ⟨.int k (l.getD i.toNat 0), by simp [Instr.index, asIntOf, run_underlying ht, c1, c2, run_sizeOf' hi, c4, part, run_isAgg' c5, c6', hlt], .c (.lf (.v _ rfl))⟩
    · cases h
  · cases h

/-- The cells of a value, when it is put into a struct or a row. -/
def cellsA : Av → Option (List Cell)
  | .c x => some [x]
  | .agg xs => some xs
  | .ai k l => some (l.map fun x => .lf (.v (.int k x)))
  | _ => none

theorem cellsA_R {β : Nat → Option Nat} {F : Nat → Prop} {w : World} {x : Av} {v : Value} {cs : List Cell} (h : AvR β F w x v) (hc : cellsA x = some cs) (hu : x ≠ .c .un) :
    v.cells.size = cs.length ∧ ∀ (i : Nat) (y : Cell) (u : Value), cs[i]? = some y → v.cells[i]? = some u → CellR β F w y u := by
  cases h with
  | c h =>
    simp only [cellsA, Option.some.injEq] at hc
    subst hc
    have h1 := h.one
    have e : v.cells = #[v] := by cases v <;> first | rfl | simp [Value.oneCell'] at h1
    rw [e]
    refine ⟨rfl, fun i y u hy hu' => ?_⟩
    match i, hy, hu' with
    | 0, hy, hu' => simp at hy hu'; subst hy; subst hu'; exact h
  | any => exact absurd rfl hu
  | agg xs cv h1 h =>
    simp only [cellsA, Option.some.injEq] at hc
    subst hc
    exact ⟨h1, h⟩
  | ai k l =>
    simp only [cellsA, Option.some.injEq] at hc
    subst hc
    refine ⟨by simp [Value.cells], fun i y u hy hu' => ?_⟩
    simp only [Value.cells, List.getElem?_toArray, List.getElem?_map, Option.map_eq_some_iff] at hy hu'
    obtain ⟨a, ha, rfl⟩ := hy
    obtain ⟨b, hb, rfl⟩ := hu'
    rw [ha] at hb
    obtain rfl := Option.some.inj hb
    exact .lf (.v _ rfl)
  | tup => simp [cellsA] at hc
  | cnd => simp [cellsA] at hc

def isUn : Av → Bool | .c .un => true | _ => false

/-- The parts of a struct laid over its zero cells. -/
def fillA (place : Nat → Option (Nat × Nat)) (cells : List Cell) : List (Nat × (List Prop × Av)) → Option (List Prop × List Cell)
  | [] => some ([], cells)
  | (i, (p, x)) :: rest =>
    match place i, cellsA x with
    | some (off, size), some cs =>
      match isUn x, decide (cs.length = size), decide (off + cs.length ≤ cells.length) with
      | false, true, true => match fillA place (cells.take off ++ cs ++ cells.drop (off + cs.length)) rest with
        | some (q, r) => some (p ++ q, r)
        | none => none
      | _, _, _ => none
    | _, _ => none

theorem foldl_set (cs : List Value) (off : Nat) : ∀ (k : Nat) (arr : Array Value), off + k + cs.length ≤ arr.size →
    (cs.zipIdx k).foldl (fun (a : Array Value) (p : Value × Nat) => a.setIfInBounds (off + p.2) p.1) arr = (arr.toList.take (off + k) ++ cs ++ arr.toList.drop (off + k + cs.length)).toArray := by
  induction cs with
  | nil => intro k arr h; simp
  | cons c cs ih =>
    intro k arr h
    simp only [List.length_cons] at h
    simp only [List.zipIdx_cons, List.foldl_cons]
    rw [ih (k + 1) _ (by simp; omega)]
    apply Array.ext_getElem?
    intro i
    simp only [List.getElem?_toArray, Array.toList_setIfInBounds, List.length_cons, List.append_assoc, List.getElem?_append, List.length_take, List.length_set, Array.length_toList, List.getElem?_take, List.getElem?_drop, List.getElem?_set]
    have e1 : min (off + (k + 1)) arr.size = off + (k + 1) := by omega
    have e2 : min (off + k) arr.size = off + k := by omega
    rw [e1, e2]
    by_cases h1 : i < off + k
    · simp [h1, show i < off + (k + 1) by omega, show ¬ off + k = i by omega]
    · by_cases h2 : i = off + k
      · subst h2
        simp [show off + k < off + (k + 1) by omega, show off + k < arr.size by omega]
      · have h3 : ¬ i < off + (k + 1) := by omega
        obtain ⟨d, rfl⟩ : ∃ d, i = off + k + 1 + d := ⟨i - (off + k + 1), by omega⟩
        simp only [h1, h3, if_false]
        rw [show off + k + 1 + d - (off + (k + 1)) = d by omega, show off + k + 1 + d - (off + k) = d + 1 by omega]
        simp only [Nat.add_lt_add_iff_right, List.getElem?_cons_succ, Nat.add_sub_add_right]
        rw [show off + (k + 1) + cs.length + (d - cs.length) = off + k + (cs.length + 1) + (d - cs.length) by omega]
        split
        · rfl
        · rw [if_neg (by omega)]

def PartsR (β : Nat → Option Nat) (F : Nat → Prop) (w : World) : List (Nat × (List Prop × Av)) → List (Nat × Value) → Prop
  | [], [] => True
  | (i, (p, x)) :: r, (j, v) :: s => i = j ∧ (AllP p → AvR β F w x v) ∧ PartsR β F w r s
  | _, _ => False

theorem fillA_sound {β : Nat → Option Nat} {F : Nat → Prop} {w : World} {place : Nat → Option (Nat × Nat)} : ∀ (parts : List (Nat × (List Prop × Av))) (vals : List (Nat × Value)) (cells : List Cell) (cv : Array Value) (ps : List Prop) (out : List Cell),
    fillA place cells parts = some (ps, out) → AllP ps → cv.size = cells.length → (∀ (i : Nat) (y : Cell) (u : Value), cells[i]? = some y → cv[i]? = some u → CellR β F w y u) →
    PartsR β F w parts vals →
    ∃ r : Array Value, Instr.fill place cv vals = some r ∧ r.size = out.length ∧ ∀ (i : Nat) (y : Cell) (u : Value), out[i]? = some y → r[i]? = some u → CellR β F w y u
  | [], vals, cells, cv, ps, out, h, hp, hsz, hc, hf => by
    cases vals with
    | cons => exact hf.elim
    | nil =>
      simp only [fillA, Option.some.injEq, Prod.mk.injEq] at h
      obtain ⟨_, rfl⟩ := h
      exact ⟨cv, rfl, hsz, hc⟩
  | (i, (p, x)) :: rest, vals, cells, cv, ps, out, h, hp, hsz, hc, hf => by
    cases vals with | nil => exact hf.elim | cons b vals =>
    obtain ⟨j, v⟩ := b
    obtain ⟨rfl, hx, hf⟩ := hf
    simp only [fillA] at h
    split at h
    · rename_i off size cs e1 e2
      split at h
      · rename_i e3 e4 e5
        split at h
        · rename_i q r e6
          simp only [Option.some.injEq, Prod.mk.injEq] at h
          obtain ⟨rfl, rfl⟩ := h
          have hu : x ≠ .c .un := by intro h; subst h; simp [isUn] at e3
          obtain ⟨k1, k2⟩ := cellsA_R (hx hp.left) e2 hu
          have e4' : cs.length = size := by simpa using e4
          have e5' : off + cs.length ≤ cells.length := by simpa using e5
          have hfold := foldl_set v.cells.toList off 0 cv (by simp; omega)
          have hz : v.cells.zipIdx.foldl (fun (a : Array Value) (p : Value × Nat) => a.setIfInBounds (off + p.2) p.1) cv = (cv.toList.take off ++ v.cells.toList ++ cv.toList.drop (off + v.cells.size)).toArray := by
            rw [← Array.foldl_toList, Array.toList_zipIdx]
            simpa using hfold
          obtain ⟨R, g1, g2, g3⟩ := fillA_sound rest vals _ (cv.toList.take off ++ v.cells.toList ++ cv.toList.drop (off + v.cells.size)).toArray q r e6 hp.right (by simp; omega) (fun i y u hy hu' => by
            simp only [List.getElem?_toArray, List.append_assoc] at hu'
            simp only [List.append_assoc] at hy
            by_cases a1 : i < off
            · rw [List.getElem?_append_left (by simp; omega)] at hy hu'
              rw [List.getElem?_take] at hy hu'
              simp only [a1, if_true] at hy hu'
              exact hc i y u hy (by simpa using hu')
            · rw [List.getElem?_append_right (by simp; omega)] at hy hu'
              have ea : min off cells.length = off := by omega
              have eb : min off cv.size = off := by omega
              simp only [List.length_take, ea] at hy
              simp only [List.length_take, Array.length_toList, eb] at hu'
              by_cases a2 : i - off < cs.length
              · rw [List.getElem?_append_left a2] at hy
                rw [List.getElem?_append_left (by simp; omega)] at hu'
                exact k2 _ y u hy (by simpa using hu')
              · rw [List.getElem?_append_right (by omega)] at hy
                rw [List.getElem?_append_right (by simp; omega)] at hu'
                rw [List.getElem?_drop] at hy hu'
                simp only [Array.length_toList, k1] at hu'
                exact hc _ y u hy (by simpa using hu')) hf
          refine ⟨R, ?_, g2, g3⟩
          simp only [Instr.fill, e1]
          rw [if_neg (by simp; omega), hz]
          exact g1
        · cases h
      · cases h
    · cases h

end Go.Sx

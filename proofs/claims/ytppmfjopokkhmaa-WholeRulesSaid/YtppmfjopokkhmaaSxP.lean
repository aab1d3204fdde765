/-
  Slices written out; nil taken as a row of the call's own; a row handed over as data. No condition.
-/
import Derived.Test.YtppmfjopokkhmaaSxO
namespace Go.Sx
open Go
set_option linter.unusedVariables false

def intsC (k : IntKind) : List Cell → Option (List Int)
  | [] => some []
  | .lf (.v (.int k' n)) :: l => match decide (k = k'), intsC k l with | true, some r => some (n :: r) | _, _ => none
  | _ :: _ => none
def leafsC : List Cell → Option (List Leaf)
  | [] => some []
  | .lf x :: l => match leafsC l with | some r => some (x :: r) | none => none
  | _ :: _ => none
def chunk (sz : Nat) : Nat → List Leaf → List (List Leaf)
  | 0, _ => []
  | n + 1, l => l.take sz :: chunk sz n (l.drop sz)
def dataOf (P : Program) (e : TypeId) (sz n : Nat) (out : List Cell) : Option Leaf :=
  match P.underlying e with
  | some (.int k) => match intsC k out with | some l => some (.ints k l) | none => none
  | _ => match leafsC out with | some ls => some (.recs sz (chunk sz n ls)) | none => none

theorem intsC_get {k : IntKind} : ∀ {cs : List Cell} {l : List Int}, intsC k cs = some l → cs = l.map fun n => .lf (.v (.int k n)) := by
  intro cs
  induction cs with
  | nil => intro l h; simp [intsC] at h; subst h; rfl
  | cons c cs ih =>
    intro l h
    cases c with
    | lf x =>
      cases x with
      | v y =>
        cases y with
        | int k' n =>
          simp only [intsC] at h
          split at h
          · rename_i r e1 e2
            simp only [Option.some.injEq] at h
            subst h
            have : k = k' := by simpa using e1
            subst this
            rw [List.map_cons, ← ih e2]
          · cases h
        | _ => cases h
      | _ => cases h
    | _ => cases h

theorem leafsC_get : ∀ {cs : List Cell} {l : List Leaf}, leafsC cs = some l → cs = l.map Cell.lf
  | [], l, h => by simp [leafsC] at h; subst h; rfl
  | .lf x :: cs, l, h => by
    simp only [leafsC] at h
    split at h
    · rename_i r e
      simp only [Option.some.injEq] at h
      subst h
      rw [List.map_cons, ← leafsC_get e]
    · cases h
  | .un :: _, _, h => by cases h
  | .own .. :: _, _, h => by cases h
  | .ptr .. :: _, _, h => by cases h
  | .pel .. :: _, _, h => by cases h
  | .fn .. :: _, _, h => by cases h

theorem chunk_length {sz : Nat} : ∀ (n : Nat) (l : List Leaf), (chunk sz n l).length = n
  | 0, _ => rfl
  | n + 1, l => by simp [chunk, chunk_length n]
theorem chunk_get {sz : Nat} : ∀ (n : Nat) (l : List Leaf) (i : Nat) (r : List Leaf) (k : Nat) (x : Leaf), (chunk sz n l)[i]? = some r → r[k]? = some x → l[i * sz + k]? = some x
  | n + 1, l, 0, r, k, x, h1, h2 => by
    simp [chunk] at h1; subst h1
    rw [List.getElem?_take] at h2
    split at h2
    · simpa using h2
    · cases h2
  | n + 1, l, i + 1, r, k, x, h1, h2 => by
    have := chunk_get n (l.drop sz) i r k x (by simpa [chunk] using h1) h2
    rw [List.getElem?_drop] at this
    rw [← this]
    congr 1
    rw [Nat.add_mul]; omega
theorem chunk_len {sz : Nat} : ∀ (n : Nat) (l : List Leaf), n * sz ≤ l.length → ∀ r, r ∈ chunk sz n l → r.length = sz
  | n + 1, l, h, r, hr => by
    rw [Nat.add_mul] at h
    cases hr with
    | head => simp; omega
    | tail _ hr => exact chunk_len n (l.drop sz) (by simp; omega) r hr

section
variable {P : Program} {E : Env} {ops : Array Oper} {Q : Exit → Act → World → Prop} {rest : List Oper} {o : Oper} {σ : St}

/-- '[]T{a, b}'. -/
theorem s_lit {t e : TypeId} {sz by_ n : Nat} {parts : Array (Nat × Operand)} {ps : List Prop} {out : List Cell} {d : Leaf} (hop : o.op = .buildSlice t n parts) (hg : o.guard = none) (hd : dstOk E.n o.dst = true) (hE : Elt P t e sz by_) (hz : zeroOk P e)
    (hf : fillA (fun i => some (i * sz, sz)) (List.replicate (n * sz) .un) (parts.toList.map fun (i, x) => (i, ox (fresh σ o.dst) x)) = some (ps, out)) (hp : AllP ps) (hdd : dataOf P e sz n out = some d) (hn : n * sz ≤ 16777216 ∧ n ≤ 16777216 ∧ lenD d = n ∧ szD d = sz)
    (hk : WL P E ops Q rest (((fresh σ o.dst).seth (nk o.dst 0) (.row d)).put o.dst (.c (.own (nk o.dst 0) sz 0 n)))) : WL P E ops Q (o :: rest) σ := by
  refine WL_step hg _ (fun a w hS => ?_) hk
  obtain ⟨β, F, hS⟩ := hS
  obtain ⟨β', hS', h1, h2, h3⟩ := hS.fresh o.dst
  obtain ⟨ht, i, z, hi, hz', hsz, hby, hzs⟩ := hE
  obtain ⟨n1, n2, n3, n4⟩ := hn
  -- the row of zeros
  let zs : Array Value := (Array.range (n * sz)).map ((if n * sz = 0 then #[] else z.cells)[· % (if n * sz = 0 then (#[] : Array Value) else z.cells).size]!)
  have hzsz : zs.size = n * sz := by simp [zs]
  have hzo : ∀ (j : Nat) (u : Value), zs[j]? = some u → u.oneCell' = true := fun j u hu => by
    have hlt := (Array.getElem?_eq_some_iff.1 hu).1
    rw [hzsz] at hlt
    have hne : n * sz ≠ 0 := by omega
    have hszp : 0 < sz := Nat.pos_of_mul_pos_left (by omega : 0 < n * sz)
    have hm : j % z.cells.size < z.cells.size := Nat.mod_lt _ (by omega)
    have : u = z.cells[j % z.cells.size] := by
      simp only [zs, hne, if_false, Array.getElem?_map, Array.getElem?_range, hlt, if_true, Option.map_some, Option.some.injEq] at hu
      rw [← hu]
      simp [hm]
    rw [this]
    exact List.all_eq_true.1 (hz i z hi hz') _ (by simp)
  have hpl : PartsR β' F w (parts.toList.map fun (i, x) => (i, ox (fresh σ o.dst) x)) (parts.toList.map fun (i, x) => (i, a.eval x)) := partsR_map hS' parts.toList
  obtain ⟨r, g1, g2, g3⟩ := fillA_sound _ _ _ zs ps out hf hp (by simp [hzsz]) (fun j y u hy hu => by
    rw [List.getElem?_replicate] at hy
    split at hy
    · simp at hy; subst hy; exact .un (hzo j u hu)
    · cases hy) hpl
  have hrun : (Instr.buildSlice t n (parts.map fun (i, x) => (i, a.eval x))).run P w = .ok (.slice (some ⟨w.heap.size, 0, none⟩) n n) (w.alloc (.cells r e)) := by
    have e1 : (parts.map fun (i, x) => (i, a.eval x)).toList = parts.toList.map fun (i, x) => (i, a.eval x) := by simp
    have e2 : ¬ (n * sz > 2 ^ 24) := by omega
    unfold Instr.buildSlice
    simp only [Sem.run_bind, run_underlying ht, Result.andThen_ok, sizeOf, typeInfo, run_program, hi, Sem.run_pure, hsz, e1]
    rw [if_neg e2]
    by_cases h0 : n * sz = 0
    · have : zs = (Array.range (n * sz)).map ((#[] : Array Value)[· % (#[] : Array Value).size]!) := by simp [zs, h0]
      rw [this] at g1
      simp only [h0, if_true, Sem.run_pure, Sem.run_bind, Result.andThen_ok] at g1 ⊢
      rw [g1]
      rfl
    · have : zs = (Array.range (n * sz)).map (z.cells[· % z.cells.size]!) := by simp [zs, h0]
      rw [this] at g1
      simp only [h0, if_false, Sem.run_pure, Sem.run_bind, Result.andThen_ok, zeroValue, typeInfo, run_program, hi, hz']
      rw [g1]
      rfl
  have hRC : RC F w d r.toList := by
    unfold dataOf at hdd
    split at hdd
    · rename_i k hk'
      split at hdd
      · rename_i l hl
        simp only [Option.some.injEq] at hdd
        subst hdd
        have ho := intsC_get hl
        subst ho
        simp only [RC]
        apply List.ext_getElem?
        intro j
        rw [List.getElem?_map]
        cases hj : l[j]? with
        | none =>
          have : r.toList[j]? = none := by
            rw [List.getElem?_eq_none_iff] at hj ⊢
            simp [g2]; simpa using hj
          rw [this]; rfl
        | some x =>
          have hlt := (List.getElem?_eq_some_iff.1 hj).1
          have hlt' : j < r.size := by rw [g2]; simpa using hlt
          have := g3 j (.lf (.v (.int k x))) r[j] (by rw [List.getElem?_map, hj]; rfl) (by simp [hlt'])
          have hv : r[j] = .int k x := by
            generalize r[j] = u at this
            cases this with | lf h => cases h; rfl
          simp [hlt', hv]
      · cases hdd
    · split at hdd
      · rename_i ls hl
        simp only [Option.some.injEq] at hdd
        subst hdd
        have ho := leafsC_get hl
        subst ho
        have hrs : r.size = ls.length := by rw [g2]; simp
        have hll : (chunk sz n ls).length = n := chunk_length n ls
        have hfl : ls.length = n * sz := by
          have hout : ∀ (parts : List (Nat × (List Prop × Av))) (cells : List Cell) (ps : List Prop) (out : List Cell), fillA (fun i => some (i * sz, sz)) cells parts = some (ps, out) → out.length = cells.length := by
            intro parts
            induction parts with
            | nil => intro cells ps out h; simp [fillA] at h; rw [h.2]
            | cons p parts ih =>
              obtain ⟨i, p, x⟩ := p
              intro cells ps out h
              simp only [fillA] at h
              split at h
              · rename_i cs e1 e2
                split at h
                · rename_i e3 e4 e5
                  split at h
                  · rename_i q r' e6
                    simp only [Option.some.injEq, Prod.mk.injEq] at h
                    obtain ⟨_, rfl⟩ := h
                    rw [ih _ _ _ e6]
                    simp only [Option.some.injEq, Prod.mk.injEq] at e1
                    have : i * sz + cs.length ≤ cells.length := by have := e5; simp at this; omega
                    simp; omega
                  · cases h
                · cases h
              · cases h
          have := hout _ _ _ _ hf
          simpa using this
        refine ⟨by rw [hll]; simp [hrs, hfl], chunk_len n ls (by omega), fun i' r' k x h1 h2 => ?_⟩
        have h3 := chunk_get n ls i' r' k x h1 h2
        have hlt := (List.getElem?_eq_some_iff.1 h3).1
        have hlt' : i' * sz + k < r.size := by omega
        have := g3 (i' * sz + k) (.lf x) r[i' * sz + k] (by rw [List.getElem?_map, h3]; rfl) (by simp [hlt'])
        cases this with | lf h => exact ⟨_, by simp [hlt'], h⟩
      · cases hdd
  obtain ⟨β2, hS2, h4⟩ := newRow' (t := e) hS' h1 h2 h3 hRC (cur := r) (fun j v hv => by simpa using hv)
  refine ⟨_, _, by simp only [execOp, hop, Sem.run_bind, hrun, Result.andThen_ok]; rfl, β2, F, hS2.put (.c (.own _ _ _ _ _ _ (Nat.le_refl _) (by simp only [maxLen]; omega) (.inr ⟨_, h4, rfl, r, row_alloc _ _, ?_⟩))) (dstOk_lt hd)⟩
  have := hRC.length
  simp at this
  rw [this, n3, n4]; omega

/-- A slot that holds nil: an empty row of the call's own. -/
theorem SR.own_nil {a : Act} {w : World} (h : SR E σ a w) (i j sz : Nat) (d : Leaf) (hi : σ.tm i = lv (.slice none 0 0)) (hj : Nat.ble 64 j = true) (hd : d = .ints .u8 [] ∨ (∃ k, d = .ints k []) ∨ ∃ s, d = .recs s []) :
    SR E (((σ.kill j).seth j (.row d)).set i (.c (.own j sz 0 0))) a w := by
  obtain ⟨β, F, h⟩ := h
  have hj64 : 64 ≤ j := by simpa using hj
  have hk := h.kill j (by have := h.nbl; omega)
  have hv := (h.tm i)
  rw [hi] at hv
  have hv := hv.val
  refine ⟨_, F, fun k => ?_, hk.sz, hk.df, fun k => ?_, fun k l g h1 h2 e1 e2 => ?_, fun k g h1 e => ?_, hk.lt, hk.fr, hk.keep, hk.bb, hk.nbl⟩
  · by_cases e : k = i
    · subst e
      simp only [St.set, if_true]
      rw [hv]
      exact .c (.own _ _ _ _ _ _ (Nat.le_refl _) (by decide) (.inl rfl))
    · simpa [St.set, e, St.seth] using hk.tm k
  · by_cases e : k = j
    · subst e
      simp only [St.set, St.seth, if_true]
      rcases hd with rfl | ⟨k', rfl⟩ | ⟨s, rfl⟩
      · exact .inl ⟨rfl, fun g hg => by simp at hg⟩
      · exact .inl ⟨rfl, fun g hg => by simp at hg⟩
      · exact ⟨fun r hr => by simp at hr, .inl ⟨rfl, fun g hg => by simp at hg⟩⟩
    · simpa [St.set, St.seth, e] using hk.hp k
  · by_cases ek : k = j
    · subst ek; simp at e1
    · by_cases el : l = j
      · subst el; simp at e2
      · exact hk.inj k l g (by simpa [St.set, St.seth, ek] using h1) (by simpa [St.set, St.seth, el] using h2) e1 e2
  · by_cases ek : k = j
    · subst ek; simp at e
    · exact hk.own k g (by simpa [St.set, St.seth, ek] using h1) e

theorem W_own_nil {c : Code} (i j sz : Nat) (d : Leaf) (hi : σ.tm i = lv (.slice none 0 0)) (hj : Nat.ble 64 j = true) (hd : d = .ints .u8 [] ∨ (∃ k, d = .ints k []) ∨ ∃ s, d = .recs s [])
    (h : W P E c Q (((σ.kill j).seth j (.row d)).set i (.c (.own j sz 0 0)))) : W P E c Q σ := fun a w hS => h a w (hS.own_nil i j sz d hi hj hd)
theorem N_own_nil {ex : Exit} (i j sz : Nat) (d : Leaf) (hi : σ.tm i = lv (.slice none 0 0)) (hj : Nat.ble 64 j = true) (hd : d = .ints .u8 [] ∨ (∃ k, d = .ints k []) ∨ ∃ s, d = .recs s [])
    (h : N E Q ex (((σ.kill j).seth j (.row d)).set i (.c (.own j sz 0 0)))) : N E Q ex σ := fun a w hS => h a w (hS.own_nil i j sz d hi hj hd)
end

end Go.Sx

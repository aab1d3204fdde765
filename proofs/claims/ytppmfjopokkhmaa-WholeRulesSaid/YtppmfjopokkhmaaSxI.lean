/-
  The walk's rules: operations of a region, code, calls. No condition.
-/
import Derived.Test.YtppmfjopokkhmaaSxH
namespace Go.Sx
open Go
set_option linter.unusedVariables false

/-- From every frame and world that the state speaks of, the operations that are left lead to Q. -/
def WL (P : Program) (E : Env) (ops : Array Oper) (Q : Exit → Act → World → Prop) (rest : List Oper) (σ : St) : Prop := ∀ a w, SR E σ a w → wpList P ops Q rest a w
/-- The same of code. -/
def W (P : Program) (E : Env) (c : Code) (Q : Exit → Act → World → Prop) (σ : St) : Prop := ∀ a w, SR E σ a w → c.wp P Q a w
/-- The same where code has come to an end. -/
def N (E : Env) (Q : Exit → Act → World → Prop) (e : Exit) (σ : St) : Prop := ∀ a w, SR E σ a w → Q e a w

def dstOk (n : Nat) : Option Nat → Bool
  | some d => decide (d < n)
  | none => true
theorem dstOk_lt {n : Nat} {d : Option Nat} (h : dstOk n d = true) : ∀ i, d = some i → i < n := by
  intro i hi; subst hi; simpa [dstOk] using h

section
variable {P : Program} {E : Env} {ops : Array Oper} {Q : Exit → Act → World → Prop} {rest : List Oper} {o : Oper} {σ : St}

theorem WL_nil (h : N E Q .normal σ) : WL P E ops Q [] σ := fun a w hS => h a w hS

/-- One operation that yields a value: what is asked of it. -/
theorem WL_step (hg : o.guard = none) (σ' : St)
    (h : ∀ a w, SR E σ a w → ∃ v w', (execOp a.eval o).run P w = .ok (.value v) w' ∧ SR E σ' (a.put o.dst v) w') (hk : WL P E ops Q rest σ') : WL P E ops Q (o :: rest) σ := by
  intro a w hS
  refine wpList_plain hg fun K hK => ?_
  obtain ⟨v, w', hr, hS'⟩ := h a w hS
  unfold Oper.wp
  rw [hr]
  exact hK _ _ (hk _ _ hS')

theorem WL_skip (hg : o.guard = none) (σ' : St)
    (h : ∀ a w, SR E σ a w → ∃ w', (execOp a.eval o).run P w = .ok .skip w' ∧ SR E σ' (a.put o.dst undef) w') (hk : WL P E ops Q rest σ') : WL P E ops Q (o :: rest) σ := by
  intro a w hS
  refine wpList_plain hg fun K hK => ?_
  obtain ⟨w', hr, hS'⟩ := h a w hS
  unfold Oper.wp
  rw [hr]
  exact hK _ _ (hk _ _ hS')

/-- A pure operation. -/
theorem s_pure (nw : Bool) {ps : List Prop} {x : Av} (h : pureOp nw P σ o = some (ps, x)) (hg : o.guard = none) (hd : dstOk E.n o.dst = true) (hp : AllP ps) (hk : WL P E ops Q rest (σ.put o.dst x)) :
    WL P E ops Q (o :: rest) σ := by
  refine WL_step hg _ (fun a w hS => ?_) hk
  obtain ⟨β, F, hS⟩ := hS
  obtain ⟨z, h1, h2⟩ := pureOp_sound h hp hS
  exact ⟨z, w, h1, β, F, hS.put h2 (dstOk_lt hd)⟩

/-- Whether a guarded operation is carried out. -/
def guardB (ops : Array Oper) (σ : St) (i : Nat) (b : Bool) : Option Bool :=
  match (ops[i]?).bind (·.dst) with
  | some d =>
    match σ.tm d with
    | .c (.lf (.v (.bool y))) => some (match b with | true => y | false => !y)
    | .cnd g (.c (.lf (.v (.bool y)))) => some (g && match b with | true => y | false => !y)
    | _ => none
  | none => none

theorem guardB_wanted {i : Nat} {b G : Bool} {a : Act} {w : World} {β : Nat → Option Nat} {F : Nat → Prop} (h : guardB ops σ i b = some G) (hg : o.guard = some (i, b)) (hS : SRb E β F σ a w) :
    Region.wanted o (yielded ops a.tmps) = G := by
  unfold guardB at h
  split at h
  · rename_i d hd
    have key : ∀ v, a.tmps.getD d undef = v → yielded ops a.tmps i = match v with | .bool y => some y | _ => none := by
      intro v hv
      simp only [yielded, hd, Option.bind_some]
      by_cases hlt : d < a.tmps.size
      · have : a.tmps[d]? = some v := by rw [← hv]; simp [hlt]
        rw [this]
        cases v <;> rfl
      · have hv' : v = undef := by rw [← hv]; simp [hlt]
        have : a.tmps[d]? = none := Array.getElem?_eq_none (Nat.le_of_not_lt hlt)
        rw [this, hv']
        rfl
    have ht := hS.tm d
    split at h
    · rename_i y hy
      simp only [Option.some.injEq] at h
      subst h
      rw [hy] at ht
      have := key _ ht.val
      simp only [Region.wanted, hg, this]
      cases b <;> cases y <;> rfl
    · rename_i g y hy
      simp only [Option.some.injEq] at h
      subst h
      rw [hy] at ht
      generalize hv : a.tmps.getD d undef = v at ht
      have hk := key v hv
      cases ht with | cnd _ _ _ h1 h0 =>
      cases g with
      | true =>
        have := (h1 rfl).val
        subst this
        simp only [Region.wanted, hg, hk]
        cases b <;> cases y <;> rfl
      | false =>
        have := h0 rfl
        subst this
        simp only [Region.wanted, hg, hk, undef]
        rfl
    · cases h
  · cases h

/-- A guarded pure operation. -/
theorem s_pureG (nw : Bool) {i : Nat} {b G : Bool} {ps : List Prop} {x : Av} (hg : o.guard = some (i, b)) (hG : guardB ops σ i b = some G) (h : pureOp nw P σ o = some (ps, x)) (hd : dstOk E.n o.dst = true)
    (hp : G = true → AllP ps) (hk : WL P E ops Q rest (σ.put o.dst (.cnd G x))) : WL P E ops Q (o :: rest) σ := by
  intro a w hS
  obtain ⟨β, F, hS⟩ := hS
  have hw := guardB_wanted (o := o) hG hg hS
  unfold wpList
  rw [hw]
  cases G with
  | true =>
    rw [if_pos rfl]
    obtain ⟨z, h1, h2⟩ := pureOp_sound h (hp rfl) hS
    left
    unfold Oper.wp
    rw [h1]
    exact hk _ _ ⟨β, F, hS.put (.cnd _ _ _ (fun _ => h2) (fun h => by cases h)) (dstOk_lt hd)⟩
  | false =>
    rw [if_neg (by simp)]
    exact hk _ _ ⟨β, F, hS.put (.cnd _ _ _ (fun h => by cases h) (fun _ => rfl)) (dstOk_lt hd)⟩

/-! Code. -/

theorem W_region {id : Nat} {l : List Oper} (h : WL P E l.toArray Q l σ) : W P E (.region id l.toArray false) Q σ := fun a w hS => wp_region_lit (h a w hS)
theorem W_seq {x y : Code} (h : W P E x (Exit.then (fun a w => y.wp P Q a w) Q) σ) : W P E (.seq x y) Q σ := fun a w hS => wp_seq (h a w hS)
theorem W_skip (h : N E Q .normal σ) : W P E .skip Q σ := fun a w hS => wp_skip (h a w hS)
theorem W_ret (h : N E Q .ret σ) : W P E .ret Q σ := fun a w hS => wp_ret (h a w hS)
theorem W_exit {id : Nat} (h : N E Q (.exit id) σ) : W P E (.exit id) Q σ := fun a w hS => wp_exit (h a w hS)
theorem W_block {id : Nat} {c : Code} (h : W P E c (Exit.inBlock id Q) σ) : W P E (.block id c) Q σ := fun a w hS => wp_block (h a w hS)

theorem W_cond {c : Operand} {x y : Code} {ps : List Prop} {b : Bool} (hc : ox σ c = (ps, .c (.lf (.v (.bool b))))) (hp : AllP ps) (ht : b = true → W P E x Q σ) (hf : b = false → W P E y Q σ) : W P E (.cond c x y) Q σ := by
  intro a w hS
  obtain ⟨β, F, hS'⟩ := hS
  have h1 := oxR hS' c
  rw [hc] at h1
  have h2 := (h1 hp).val
  exact wp_cond_split h2 (fun h => ht h a w ⟨β, F, hS'⟩) (fun h => hf h a w ⟨β, F, hS'⟩)

theorem N_then {y : Code} {Q' : Exit → Act → World → Prop} (h : W P E y Q σ) : N E (Exit.then (fun a w => y.wp P Q a w) Q') .normal σ := h
theorem N_then_exit {K : Act → World → Prop} {id : Nat} (h : N E Q (.exit id) σ) : N E (Exit.then K Q) (.exit id) σ := h
theorem N_then_ret {K : Act → World → Prop} (h : N E Q .ret σ) : N E (Exit.then K Q) .ret σ := h
theorem N_block {id : Nat} (h : N E Q .normal σ) : N E (Exit.inBlock id Q) .normal σ := h
theorem N_block_ret {id : Nat} (h : N E Q .ret σ) : N E (Exit.inBlock id Q) .ret σ := h
theorem N_block_exit {id : Nat} (h : N E Q .normal σ) : N E (Exit.inBlock id Q) (.exit id) σ := fun a w hS => by simpa [Exit.inBlock] using h a w hS
theorem N_block_pass {id id' : Nat} (hne : (id' == id) = false) (h : N E Q (.exit id') σ) : N E (Exit.inBlock id Q) (.exit id') σ := fun a w hS => by
  have : id' ≠ id := by simpa using hne
  simpa [Exit.inBlock, this] using h a w hS

/-- Forgetting: slots and blocks of which less is said. -/
def Av.le (x y : Av) : Prop := x = y ∨ y = .c .un
def Blk.le (x y : Blk) : Prop := x = y ∨ y = .gone
def St.le (σ τ : St) : Prop := (∀ i, (σ.tm i).le (τ.tm i)) ∧ ∀ j, (σ.hp j).le (τ.hp j)

theorem SR.weaken {τ : St} {a : Act} {w : World} (h : SR E σ a w) (hle : σ.le τ) : SR E τ a w := by
  obtain ⟨β, F, h⟩ := h
  have hne : ∀ j, τ.hp j ≠ .gone → σ.hp j = τ.hp j := fun j hj => by
    rcases hle.2 j with h | h
    · exact h
    · exact absurd h hj
  refine ⟨β, F, fun i => ?_, h.sz, h.df, fun j => ?_, fun i j g hi hj => h.inj i j g (by rw [hne i hi]; exact hi) (by rw [hne j hj]; exact hj), fun j g hj => h.own j g (by rw [hne j hj]; exact hj), h.lt, h.fr, h.keep, h.bb, h.nbl⟩
  · rcases hle.1 i with e | e
    · rw [← e]; exact h.tm i
    · rw [e]; exact .any _
  · rcases hle.2 j with e | e
    · rw [← e]; exact h.hp j
    · rw [e]; trivial

theorem W_weaken {c : Code} {τ : St} (hle : σ.le τ) (h : W P E c Q τ) : W P E c Q σ := fun a w hS => h a w (hS.weaken hle)
theorem N_weaken {e : Exit} {τ : St} (hle : σ.le τ) (h : N E Q e τ) : N E Q e σ := fun a w hS => h a w (hS.weaken hle)
theorem WL_weaken {τ : St} (hle : σ.le τ) (h : WL P E ops Q rest τ) : WL P E ops Q rest σ := fun a w hS => h a w (hS.weaken hle)

/-- A state by what is known: slots and blocks. -/
def look {α : Type} (d : α) : List (Nat × α) → Nat → α
  | [], _ => d
  | (i, x) :: l, k => match Nat.beq k i with | true => x | false => look d l k
def St.of (l : List (Nat × Av)) (h : List (Nat × Blk)) : St := ⟨look (.c .un) l, look .gone h⟩

theorem look_le {α : Type} {d : α} {f : Nat → α} : ∀ (l : List (Nat × α)), (∀ p, p ∈ l → f p.1 = p.2) → ∀ i, f i = look d l i ∨ look d l i = d
  | [], _, i => .inr rfl
  | (j, x) :: l, h, i => by
    simp only [look]
    split
    · rename_i e
      have : i = j := Nat.eq_of_beq_eq_true e
      subst this
      exact .inl (h (i, x) (List.mem_cons_self ..))
    · exact look_le l (fun p hp => h p (List.mem_cons_of_mem _ hp)) i

/-- The two lists, one equation an entry. -/
def Eqs (σ : St) (l : List (Nat × Av)) (h : List (Nat × Blk)) : Prop := AllP (l.map fun p => σ.tm p.1 = p.2) ∧ AllP (h.map fun p => σ.hp p.1 = p.2)
theorem allP_map {α : Type} {f : α → Prop} : ∀ {l : List α}, AllP (l.map f) → ∀ p, p ∈ l → f p
  | [], _, p, hp => by cases hp
  | [x], h, p, hp => by rw [List.mem_singleton.1 hp]; exact h
  | x :: y :: l, h, p, hp => by
    cases hp with
    | head => exact h.1
    | tail _ hp => exact allP_map (l := y :: l) h.2 p hp
theorem St.le_of {l : List (Nat × Av)} {h : List (Nat × Blk)} (he : Eqs σ l h) : σ.le (.of l h) :=
  ⟨fun i => look_le l (fun p hp => allP_map he.1 p hp) i, fun j => look_le h (fun p hp => allP_map he.2 p hp) j⟩

/-- The loop's next round. -/
def AgainK {ι : Type} (E : Env) (S : ι → St) (m : ι → Nat) (n : Nat) : Act → World → Prop := fun a w => ∃ i', m i' < n ∧ SR E (S i') a w
/-- A loop: states by an index, which every round lowers. -/
theorem W_loop {ι : Type} {c : Code} (S : ι → St) (m : ι → Nat) (round : ∀ i, W P E c (Exit.then (AgainK E S m (m i)) Q) (S i)) : ∀ i, W P E (.loop c) Q (S i) := by
  intro i a w hS b k cs
  have key : ∀ n i a w, m i = n → SR E (S i) a w → ∃ e a' w', Q e a' w' ∧ Arrives P (lone (b.at a (.code c :: .inLoop c :: k)) cs w) b k cs e a' w' := by
    intro n
    induction n using Nat.strongRecOn with
    | _ n ih =>
      intro i a w hn hI
      obtain ⟨e, a₁, w₁, hq, harr⟩ := round i a w hI b (.inLoop c :: k) cs
      cases e with
      | normal =>
        obtain ⟨i', hlt, hI'⟩ := hq
        obtain ⟨e₂, a₂, w₂, hq₂, harr₂⟩ := ih (m i') (hn ▸ hlt) i' a₁ w₁ rfl hI'
        exact ⟨e₂, a₂, w₂, hq₂, .of_steps (Steps.trans harr (.one step_inLoop)) harr₂⟩
      | exit id => exact ⟨_, a₁, w₁, hq, .pass (x := .inLoop c) rfl (fun _ _ => .inl (by simp)) harr⟩
      | goto l => exact ⟨_, a₁, w₁, hq, .pass (x := .inLoop c) rfl (fun _ _ => .inl (by simp)) harr⟩
      | ret => exact ⟨_, a₁, w₁, hq, .pass (x := .inLoop c) rfl (fun _ _ => .inl (by simp)) harr⟩
      | panic ch => exact ⟨_, a₁, w₁, hq, .pass (x := .inLoop c) rfl (fun _ _ => .inl (by simp)) harr⟩
      | outgrown => exact ⟨_, a₁, w₁, hq, .pass (x := .inLoop c) rfl (fun _ _ => .inl (by simp)) harr⟩
  obtain ⟨e, a', w', hq, harr⟩ := key _ i a w rfl hS
  exact ⟨e, a', w', hq, .of_steps (.one step_loop) harr⟩

theorem N_round {ι : Type} {S : ι → St} {m : ι → Nat} {n : Nat} (i' : ι) (hm : m i' < n) (hle : σ.le (S i')) : N E (Exit.then (AgainK E S m n) Q) .normal σ :=
  fun a w hS => ⟨i', hm, hS.weaken hle⟩
end

/-! Contracts. -/

/-- Where the results of a call lie. -/
structure Out (w0 : World) (M F0 : Nat → Prop) (nb nn : Nat) (β β' : Nat → Option Nat) (F' : Nat → Prop) (w : World) : Prop where
  hb : ∀ i, i < nb → β' i = β i
  inj : ∀ i j g, i < nb + nn → j < nb + nn → β' i = some g → β' j = some g → i = j
  own : ∀ j g, j < nb + nn → β' j = some g → g < w.heap.size ∧ ¬ F' g
  new : ∀ i g, i < nn → β' (nb + i) = some g → w0.heap.size ≤ g
  fr : ∀ b, F' b → b < w.heap.size ∧ (F0 b ∨ w0.heap.size ≤ b)
  keep : Keep w0 M w

/-- Function f, called with args over the blocks bor: it returns res, leaves bor' in them, and makes the blocks news. The blocks are numbered from 0; the news follow. -/
def Ct (P : Program) (f : FuncId) (args : List Av) (bor : List Blk) (res : Av) (bor' news : List Blk) : Prop :=
  bor'.length = bor.length ∧ (∃ fn, P.funcs[f]? = some fn ∧ (fn.name == "runtime.NumGoroutine") = false ∧ fn.body.isNone = false) ∧
  ∀ (w : World) (β : Nat → Option Nat) (F : Nat → Prop) (vs : List Value), vs.length = args.length → (∀ (i : Nat) (x : Av) (v : Value), args[i]? = some x → vs[i]? = some v → AvR β F w x v) →
    (∀ i b, bor[i]? = some b → BlkR β F w i b ∧ b ≠ .gone) → (∀ i j g, i < bor.length → j < bor.length → β i = some g → β j = some g → i = j) →
    (∀ j g, j < bor.length → β j = some g → g < w.heap.size ∧ ¬ F g) → (∀ j, bor.length ≤ j → β j = none) → (∀ b, F b → b < w.heap.size) →
    Calls P f vs.toArray w fun e w' => ∃ v β' F', e = .returned v ∧ AvR β' F' w' res v ∧ (∀ i b, bor'[i]? = some b → BlkR β' F' w' i b) ∧ (∀ i b, news[i]? = some b → BlkR β' F' w' (bor.length + i) b) ∧
      Out w (fun g => ∃ i, i < bor.length ∧ β i = some g) F bor.length news.length β β' F' w'

end Go.Sx

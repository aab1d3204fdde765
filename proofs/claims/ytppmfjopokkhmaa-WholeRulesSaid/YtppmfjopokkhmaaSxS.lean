/-
  Regions whose order is open: the law. No condition.
-/
import Derived.Test.YtppmfjopokkhmaaSxR
namespace Go.Sx
open Go
set_option linter.unusedVariables false
set_option linter.unusedSimpArgs false

def fnd : List Oper → Nat → Nat → Option Nat
  | [], _, _ => none
  | o :: l, s, k => match o.dst with
    | some d => match Nat.beq d s with | true => some k | false => fnd l s (k + 1)
    | none => fnd l s (k + 1)

def memB (i : Nat) : List Nat → Bool
  | [] => false
  | j :: l => match Nat.beq i j with | true => true | false => memB i l

/-- The state in which just the operations of which 'done' says so have come up. -/
def stD (σ : St) (l : List Oper) (T : Nat → Av) (done : Nat → Bool) : St :=
  ⟨fun s => match fnd l s 0 with | some i => (match done i with | true => T i | false => .c .un) | none => σ.tm s, σ.hp⟩

/-- What an operation waits for. -/
def depsOf (o : Oper) : List Nat := (o.after.toList.filter (Region.binds .any)).map (·.on)

def cnt (f : Nat → Bool) : Nat → Nat
  | 0 => 0
  | n + 1 => cnt f n + (match f n with | true => 1 | false => 0)
theorem cnt_set {f f' : Nat → Bool} {i : Nat} (h1 : f i = true) (h2 : f' i = false) (h : ∀ j, j ≠ i → f' j = f j) : ∀ n, cnt f n = cnt f' n + (if i < n then 1 else 0)
  | 0 => rfl
  | n + 1 => by
    have ih := cnt_set h1 h2 h n
    simp only [cnt]
    by_cases hn : n = i
    · subst hn
      rw [h1, h2, ih]
      simp
    · rw [h n hn, ih]
      by_cases h3 : i < n
      · simp [h3, show i < n + 1 by omega]; omega
      · simp [h3, show ¬ i < n + 1 by omega]
theorem cnt_zero {f : Nat → Bool} : ∀ n, cnt f n = 0 → ∀ j, j < n → f j = false
  | n + 1, h, j, hj => by
    simp only [cnt] at h
    by_cases hjn : j = n
    · subst hjn
      cases hf : f j with
      | false => rfl
      | true => rw [hf] at h; simp at h
    · exact cnt_zero n (by omega) j (by omega)
theorem cnt_least {f : Nat → Bool} : ∀ n, cnt f n ≠ 0 → ∃ j, j < n ∧ f j = true ∧ ∀ k, k < j → f k = false
  | 0, h => absurd rfl h
  | n + 1, h => by
    by_cases h0 : cnt f n = 0
    · refine ⟨n, by omega, ?_, cnt_zero n h0⟩
      simp only [cnt, h0] at h
      cases hf : f n with
      | true => rfl
      | false => rw [hf] at h; simp at h
    · obtain ⟨j, a, b, c⟩ := cnt_least n h0
      exact ⟨j, by omega, b, c⟩

/-- That a region is as the law needs it: the first n operations have slots of their own and wait for earlier ones alone; the rest come up behind them, in their order. -/
def drawB (ops : Array Oper) (l : List Oper) (n : Nat) : Bool :=
  Nat.ble n ops.size && (Nat.beq n ops.size || (Region.sinkB .any ops n && Region.chainB .any ops n)) &&
  Region.seqB .any ops (ops.size - n) n ((List.replicate n true ++ List.replicate (ops.size - n) false).toArray) &&
  (List.range n).all (fun i => match ops[i]? with
    | some o => o.after.toList.all (fun e => Nat.blt e.on i) && (match o.dst with | some d => (match fnd l d 0 with | some j => Nat.beq j i | none => false) | none => true)
    | none => false)

theorem SRb.weaken {E : Env} {β : Nat → Option Nat} {F : Nat → Prop} {σ τ : St} {a : Act} {w : World} (h : SRb E β F σ a w) (h1 : ∀ i, τ.tm i = σ.tm i ∨ τ.tm i = .c .un) (h2 : τ.hp = σ.hp) : SRb E β F τ a w := by
  refine ⟨fun i => ?_, h.sz, h.df, by rw [h2]; exact h.hp, by rw [h2]; exact h.inj, by rw [h2]; exact h.own, h.lt, h.fr, h.keep, h.bb, h.nbl⟩
  rcases h1 i with e | e
  · rw [e]; exact h.tm i
  · rw [e]; exact .any _

theorem SRb.drawn {E : Env} {β : Nat → Option Nat} {F : Nat → Prop} {σ : St} {a : Act} {w : World} (h : SRb E β F σ a w) (n : Nat) : SRb E β F σ a { w with drawn := n } :=
  h.grown (w' := { w with drawn := n }) ⟨rfl, rfl, rfl, Nat.le_refl _, fun _ _ => rfl⟩ (fun _ h => h) (fun _ h => .inl h)

section
variable {P : Program} {E : Env} {ops : Array Oper} {Q : Exit → Act → World → Prop} {σ : St}

theorem draw_any {l lt : List Oper} {n : Nat} {T : Nat → Av} (hT : lt.length = ops.size - n) (hTl : ∀ j, lt[j]? = ops[n + j]?) (hB : drawB ops l n = true) (hl : ∀ s i, fnd l s 0 = some i → i < n ∧ (ops[i]?).bind (·.dst) = some s) (hE : ∀ d o i, i < n → ops[i]? = some o → o.dst = some d → d < E.n)
    (hop : ∀ i o, i < n → ops[i]? = some o → OpQ P E ops o (stD σ l T (fun j => memB j (depsOf o))) (T i))
    (hk : ∀ a w, SR E (stD σ l T (fun _ => true)) a w → wpList P ops Q lt a w) :
    ∀ (m : Nat) (listed : Array Bool) (a : Act) (w : World), cnt (fun j => !listed.getD j true) n = m → HeadInv .any ops n listed → (∃ β F, SRb E β F (stD σ l T (fun j => listed.getD j false)) a w) →
      wpAny P .any ops Q (m + (ops.size - n)) listed a w := by
  simp only [drawB, Bool.and_eq_true, Bool.or_eq_true, List.all_eq_true, List.mem_range] at hB
  obtain ⟨⟨⟨hB1, hB2⟩, hB3⟩, hB4⟩ := hB
  have hn : n ≤ ops.size := Nat.le_of_ble_eq_true hB1
  intro m
  induction m with
  | zero =>
    intro listed a w hc hI hS
    have hall := cnt_zero n hc
    have e : listed = (List.replicate n true ++ List.replicate (ops.size - n) false).toArray := by
      apply Array.ext_getElem?
      intro i
      simp only [List.getElem?_toArray]
      rcases Nat.lt_or_ge i n with h | h
      · rw [List.getElem?_append_left (by simpa using h)]
        have h1 := hall i h
        have hs : i < listed.size := by rw [hI.size]; omega
        simp [hs] at h1
        simp [hs, h, h1]
      · rw [List.getElem?_append_right (by simpa using h)]
        rcases Nat.lt_or_ge i ops.size with h' | h'
        · have h1 := hI.tail i h h'
          have hs : i < listed.size := by rw [hI.size]; exact h'
          simp [hs] at h1
          simp [hs, h1, show i - n < ops.size - n by omega]
        · have hs : ¬ i < listed.size := by rw [hI.size]; omega
          simp [hs, show ¬ i - n < ops.size - n by omega]
    rw [Nat.zero_add]
    have hst : stD σ l T (fun j => listed.getD j false) = stD σ l T (fun _ => true) := by
      simp only [stD, St.mk.injEq, and_true]
      funext s
      split
      · rename_i i hi
        have := (hl s i hi).1
        have h1 := hall i this
        have hs : i < listed.size := by rw [hI.size]; omega
        simp [hs] at h1
        simp [hs, h1]
      · rfl
    rw [hst] at hS
    have := wpAny_of_seq (md := .any) (P := P) (Q' := Q) lt n listed a w hTl (by rw [hT, e]; exact hB3) (hk a w hS)
    rwa [hT] at this
  | succ m ih =>
    intro listed a w hc hI hS
    have hne : cnt (fun j => !listed.getD j true) n ≠ 0 := by omega
    obtain ⟨i0, h1, h2, h3⟩ := cnt_least n hne
    have h2' : listed.getD i0 true = false := by simpa using h2
    have hr0 : i0 ∈ Region.ready .any ops listed := by
      refine mem_ready.2 ⟨h2', ?_⟩
      have := hB4 i0 h1
      split at this
      · rename_i o ho
        simp only [Bool.and_eq_true, List.all_eq_true] at this
        refine ⟨o, ho, fun e he _ => ?_⟩
        have h4 : e.on < i0 := blt_lt (this.1 e (by simpa using he))
        have h5 := h3 e.on h4
        have hs : e.on < listed.size := by rw [hI.size]; omega
        simp [hs] at h5
        simp [hs, h5]
      · cases this
    rw [show m + 1 + (ops.size - n) = m + (ops.size - n) + 1 by omega]
    refine ⟨fun h => (by rw [h] at hr0; cases hr0), fun i hi => ?_⟩
    have hin : i < n := by
      rcases Nat.lt_or_ge i n with h | h
      · exact h
      · rcases hB2 with hB2 | hB2
        · have e : n = ops.size := Nat.eq_of_beq_eq_true hB2
          obtain ⟨_, o, ho, _⟩ := mem_ready.1 hi
          have := (Array.getElem?_eq_some_iff.1 ho).1
          omega
        · by_cases hns : n < ops.size
          · exact absurd hi (tail_waits hB2.1 hB2.2 hns hI _ i0 rfl h1 h2' i h)
          · obtain ⟨_, o, ho, _⟩ := mem_ready.1 hi
            have := (Array.getElem?_eq_some_iff.1 ho).1
            omega
    obtain ⟨hun, o, ho, hdeps⟩ := mem_ready.1 hi
    have hB4i := hB4 i hin
    rw [ho] at hB4i
    simp only [Bool.and_eq_true] at hB4i
    obtain ⟨β, F, hS⟩ := hS
    have hmin : SRb E β F (stD σ l T (fun j => memB j (depsOf o))) a w := by
      refine hS.weaken (fun s => ?_) rfl
      simp only [stD]
      split
      · rename_i j hj
        cases hm : memB j (depsOf o) with
        | false => exact .inr rfl
        | true =>
          left
          have hmem : ∀ (x : Nat) (l : List Nat), memB x l = true → x ∈ l := by
            intro x l
            induction l with
            | nil => intro h; cases h
            | cons y l ih =>
              intro h
              simp only [memB] at h
              split at h
              · rename_i e; rw [Nat.eq_of_beq_eq_true e]; exact List.mem_cons_self ..
              · exact List.mem_cons_of_mem _ (ih h)
          have := hmem _ _ hm
          simp only [depsOf, List.mem_map, List.mem_filter] at this
          obtain ⟨e, ⟨he1, he2⟩, rfl⟩ := this
          rw [hdeps e (by simpa using he1) he2]
      · exact .inl rfl
    have hq := hop i o hin ho β F a w hmin (fun a' w' => wpAny P .any ops Q (m + (ops.size - n)) (listed.setIfInBounds i true) a' w') Q fun v w' F' g1 g2 g3 g4 => by
      refine ih _ _ _ ?_ (hI.set hi hin) ?_
      · have hs : i < listed.size := by rw [hI.size]; omega
        have := cnt_set (f := fun j => !listed.getD j true) (f' := fun j => !(listed.setIfInBounds i true).getD j true) (i := i) (by simp [hun]) (by simp [hs]) (fun j hj => by
          simp only [getD_set_ne true (Ne.symm hj)]) n
        rw [if_pos hin] at this
        omega
      · refine ⟨β, F', ?_⟩
        have hb := (hS.grown g1 g2 g3)
        have hs : i < listed.size := by rw [hI.size]; omega
        cases hd : o.dst with
        | none =>
          have e : stD σ l T (fun j => (listed.setIfInBounds i true).getD j false) = stD σ l T (fun j => listed.getD j false) := by
            simp only [stD, St.mk.injEq, and_true]
            funext s
            split
            · rename_i j hj
              have hjs := (hl s j hj).2
              have hji : j ≠ i := by rintro rfl; rw [ho] at hjs; simp [hd] at hjs
              rw [getD_set_ne false (Ne.symm hji)]
            · rfl
          rw [e]
          exact hb
        | some d =>
          rw [hd] at hB4i
          have hfd : fnd l d 0 = some i := by
            have := hB4i.2
            dsimp only at this
            split at this
            · rename_i j hj; rw [hj, Nat.eq_of_beq_eq_true this]
            · cases this
          have hp := hb.put (d := some d) g4 (fun k hk => by cases hk; exact hE d o i hin ho hd)
          refine hp.weaken (fun s => .inl ?_) rfl
          simp only [stD, St.put, St.set]
          by_cases hsd : s = d
          · subst hsd
            simp [hfd, hs]
          · rw [if_neg hsd]
            split
            · rename_i j hj
              have hji : j ≠ i := by
                rintro rfl
                have h5 := (hl s j hj).2
                rw [ho] at h5
                simp [hd] at h5
                exact hsd h5.symm
              rw [getD_set_ne false (Ne.symm hji)]
            · rfl
    unfold wpOp
    rw [ho]
    dsimp only
    split
    · rename_i hw; rw [if_pos hw] at hq; exact .inl hq
    · rename_i hw; rw [if_neg hw] at hq; exact hq

theorem fnd_spec : ∀ (l : List Oper) (s k i : Nat), fnd l s k = some i → k ≤ i ∧ (l[i - k]?).bind (·.dst) = some s
  | o :: l, s, k, i, h => by
    have next : fnd l s (k + 1) = some i → k ≤ i ∧ ((o :: l)[i - k]?).bind (·.dst) = some s := fun h => by
      obtain ⟨h1, h2⟩ := fnd_spec l s (k + 1) i h
      refine ⟨by omega, ?_⟩
      rw [show i - k = i - (k + 1) + 1 by omega]
      exact h2
    simp only [fnd] at h
    split at h
    · rename_i d hd
      split at h
      · rename_i e
        simp only [Option.some.injEq] at h
        subst h
        have : d = s := Nat.eq_of_beq_eq_true e
        subst this
        exact ⟨Nat.le_refl _, by simp [hd]⟩
      · exact next h
    · exact next h

/-- The walk through a region of open order, in the order of its text: done lists what the operations before yield. -/
def DrawL (P : Program) (E : Env) (ops : Array Oper) (l : List Oper) (σ : St) (k : Nat) (done : List Av) (rest : List Oper) (K : List Av → Prop) : Prop :=
  ∃ xs : List Av, xs.length = rest.length ∧ (∀ i o, rest[i]? = some o → OpQ P E ops o (stD σ l (fun j => (done ++ xs).getD j (.c .un)) (fun j => memB j (depsOf o))) ((done ++ xs).getD (k + i) (.c .un))) ∧ K (done ++ xs)

theorem DrawL_nil {l : List Oper} {k : Nat} {done : List Av} {K : List Av → Prop} (h : K done) : DrawL P E ops l σ k done [] K := ⟨[], rfl, fun i o h => by simp at h, by simpa using h⟩

theorem DrawL_cons {l : List Oper} {k : Nat} {done : List Av} {rest : List Oper} {o : Oper} {K : List Av → Prop} (x : Av) (hk : done.length = k) (hd : (depsOf o).all (fun j => Nat.blt j k) = true)
    (h : OpQ P E ops o (stD σ l (fun j => done.getD j (.c .un)) (fun j => memB j (depsOf o))) x) (hr : DrawL P E ops l σ (k + 1) (done ++ [x]) rest K) : DrawL P E ops l σ k done (o :: rest) K := by
  obtain ⟨xs, h1, h2, h3⟩ := hr
  have e : done ++ x :: xs = done ++ [x] ++ xs := by simp
  refine ⟨x :: xs, by simp [h1], fun i o' ho => ?_, by rw [e]; exact h3⟩
  match i, ho with
  | 0, ho =>
    simp at ho
    subst ho
    rw [e]
    have e1 : (done ++ [x] ++ xs).getD (k + 0) (.c .un) = x := by
      simp [List.getElem?_append_right, ← hk]
    rw [e1]
    have e2 : stD σ l (fun j => (done ++ [x] ++ xs).getD j (.c .un)) (fun j => memB j (depsOf o)) = stD σ l (fun j => done.getD j (.c .un)) (fun j => memB j (depsOf o)) := by
      simp only [stD, St.mk.injEq, and_true]
      funext s
      split
      · rename_i j hj
        cases hm : memB j (depsOf o) with
        | false => rfl
        | true =>
          have hmem : ∀ (x : Nat) (l : List Nat), memB x l = true → x ∈ l := by
            intro x l
            induction l with
            | nil => intro h; cases h
            | cons y l ih =>
              intro h
              simp only [memB] at h
              split at h
              · rename_i e; rw [Nat.eq_of_beq_eq_true e]; exact List.mem_cons_self ..
              · exact List.mem_cons_of_mem _ (ih h)
          have hlt : j < k := blt_lt (List.all_eq_true.1 hd j (hmem _ _ hm))
          simp [List.getElem?_append_left, hk, hlt, show j < done.length + 1 by omega]
      · rfl
    rw [e2]
    exact h
  | i + 1, ho =>
    have := h2 i o' (by simpa using ho)
    rw [e, show k + (i + 1) = k + 1 + i by omega]
    exact this

/-- A region of open order: the first n operations in whatever order, the rest behind them. -/
theorem W_draw {id : Nat} {l : List Oper} (n : Nat) (hm : P.follows .mixedOrders = true) (hB : drawB l.toArray (l.take n) n = true) (hE : (l.take n).all (fun o => dstOk E.n o.dst) = true)
    (h : DrawL P E l.toArray (l.take n) σ 0 [] (l.take n) (fun xs => WL P E l.toArray Q (l.drop n) (stD σ (l.take n) (fun j => xs.getD j (.c .un)) (fun _ => true)))) : W P E (.region id l.toArray true) Q σ := by
  intro a w hS
  obtain ⟨xs, h1, h2, h3⟩ := h
  have hn : n ≤ l.length := by
    simp only [drawB, Bool.and_eq_true] at hB
    have := Nat.le_of_ble_eq_true hB.1.1.1
    simpa using this
  refine wp_region_any hm ?_
  have hl : (l.take n).length = n := by simp; omega
  have hcnt : cnt (fun j => !(Array.replicate l.toArray.size false).getD j true) n = n := by
    have : ∀ m, m ≤ l.length → cnt (fun j => !(Array.replicate l.toArray.size false).getD j true) m = m := by
      intro m
      induction m with
      | zero => intro _; rfl
      | succ m ih =>
        intro hm
        simp only [cnt, ih (by omega)]
        simp [show m < l.length by omega]
    exact this n hn
  have key := draw_any (P := P) (E := E) (ops := l.toArray) (Q := Q) (σ := σ) (l := l.take n) (lt := l.drop n) (n := n) (T := fun j => ([] ++ xs).getD j (.c .un)) (by simp) (fun j => by simp [List.getElem?_drop]) hB
    (fun s i hi => by
      obtain ⟨_, h5⟩ := fnd_spec _ _ _ _ hi
      rw [Nat.sub_zero] at h5
      obtain ⟨o, ho, hod⟩ := Option.bind_eq_some_iff.1 h5
      rw [List.getElem?_take] at ho
      split at ho
      · rename_i hlt
        exact ⟨hlt, by simp [ho, hod]⟩
      · cases ho)
    (fun d o i hi ho hd => by
      have : o ∈ l.take n := List.mem_of_getElem? (i := i) (by rw [List.getElem?_take, if_pos hi]; simpa using ho)
      exact dstOk_lt (List.all_eq_true.1 hE o this) d hd)
    (fun i o hi ho => by
      have := h2 i o (by rw [List.getElem?_take, if_pos hi]; simpa using ho)
      simpa using this)
    (fun a w h => h3 a w h) n (Array.replicate l.toArray.size false) a { w with drawn := w.drawn + 1 } hcnt
    ⟨by simp, fun j oj _ hl => (by rw [getD_replicate_false] at hl; cases hl), fun t _ ht => getD_in (by simpa using ht) (getD_replicate_false _ _)⟩
    (by
      obtain ⟨β, F, hS⟩ := hS
      refine ⟨β, F, (hS.drawn _).weaken (fun s => ?_) rfl⟩
      simp only [stD]
      split
      · rename_i i hi
        rw [getD_replicate_false]
        exact .inr rfl
      · exact .inl rfl)
  rwa [show n + (l.toArray.size - n) = l.toArray.size by simp; omega] at key
end
end Go.Sx

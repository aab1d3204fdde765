/-
  A call's end; a call met in the walk. No condition.
-/
import Derived.Test.YtppmfjopokkhmaaSxJ
namespace Go.Sx
open Go
set_option linter.unusedVariables false

def resP1 (P : Program) (σ : St) : ResultVar → Option (List Prop × Av)
  | .tmp t => some (ox σ (.tmp t))
  | .cell p ty => loadP P σ ty (ox σ (.tmp p))
def resPs (P : Program) (σ : St) : List ResultVar → Option (List Prop × List Av)
  | [] => some ([], [])
  | x :: l => match resP1 P σ x, resPs P σ l with | some (p, y), some (q, ys) => some (p ++ q, y :: ys) | _, _ => none
def resP (P : Program) (σ : St) (l : List ResultVar) : Option (List Prop × Av) :=
  match resPs P σ l with
  | some (p, [x]) => some (p, x)
  | some (p, xs) => some (p, .tup xs)
  | none => none

theorem asAddr_of_load {P : Program} {w : World} {t : TypeId} {v z : Value} (h : (Instr.loadAt t v).run P w = .ok z w) : (do loadVar t (← asAddr v) : Sem Value).run P w = .ok z w := by
  cases v with
  | pointer a =>
    cases a with
    | some a => simpa [Instr.loadAt, Instr.sureAddr, asAddr] using h
    | none => simp [Instr.loadAt, Instr.sureAddr] at h
  | _ => simp [Instr.loadAt, Instr.sureAddr] at h

def resV (tmps : Array Value) : ResultVar → Sem Value
  | .tmp t => pure (tmps.getD t undef)
  | .cell a t => do loadVar t (← asAddr (tmps.getD a undef))

theorem resPs_sound {P : Program} {E : Env} {σ : St} {a : Act} {w : World} {β : Nat → Option Nat} {F : Nat → Prop} (hS : SRb E β F σ a w) : ∀ (l : List ResultVar) (ps : List Prop) (ys : List Av), resPs P σ l = some (ps, ys) → AllP ps →
    ∃ vs : List Value, (l.mapM (m := Sem) (resV a.tmps)).run P w = .ok vs w ∧ vs.length = ys.length ∧ ∀ (i : Nat) (y : Av) (v : Value), ys[i]? = some y → vs[i]? = some v → AvR β F w y v
  | [], ps, ys, h, hp => by
    simp only [resPs, Option.some.injEq, Prod.mk.injEq] at h
    obtain ⟨_, rfl⟩ := h
    exact ⟨[], by simp, rfl, fun i y v hy => by simp at hy⟩
  | x :: l, ps, ys, h, hp => by
    simp only [resPs] at h
    split at h
    · rename_i p y q ys' e1 e2
      simp only [Option.some.injEq, Prod.mk.injEq] at h
      obtain ⟨rfl, rfl⟩ := h
      obtain ⟨vs, h1, h2, h3⟩ := resPs_sound hS l q ys' e2 hp.right
      have hv : ∃ v, (resV a.tmps x).run P w = .ok v w ∧ AvR β F w y v := by
        cases x with
        | tmp t =>
          simp only [resP1, Option.some.injEq] at e1
          have := oxR hS (.tmp t)
          rw [e1] at this
          exact ⟨_, rfl, this hp.left⟩
        | cell c ty =>
          simp only [resP1] at e1
          obtain ⟨z, k1, k2⟩ := loadP_sound e1 hp.left hS (oxR hS (.tmp c))
          exact ⟨z, asAddr_of_load k1, k2⟩
      obtain ⟨v, hv1, hv2⟩ := hv
      refine ⟨v :: vs, by simp [List.mapM_cons, hv1, h1], by simp [h2], fun i y' v' hy hv' => ?_⟩
      match i, hy, hv' with
      | 0, hy, hv' => simp at hy hv'; subst hy; subst hv'; exact hv2
      | i + 1, hy, hv' => exact h3 i y' v' (by simpa using hy) (by simpa using hv')
    · cases h

theorem resP_sound {P : Program} {E : Env} {σ : St} {a : Act} {w : World} {β : Nat → Option Nat} {F : Nat → Prop} (hS : SRb E β F σ a w) {fn : Func} {ps : List Prop} {r : Av} (h : resP P σ fn.results.toList = some (ps, r)) (hp : AllP ps) :
    ∃ v, (results fn a.tmps).run P w = .ok v w ∧ AvR β F w r v := by
  unfold resP at h
  have key : ∀ (p : List Prop) (ys : List Av), resPs P σ fn.results.toList = some (p, ys) → AllP p → ∃ vs : List Value, (results fn a.tmps).run P w = .ok (if h : vs.toArray.size = 1 then vs.toArray[0] else .tuple vs.toArray) w ∧ vs.length = ys.length ∧ ∀ (i : Nat) (y : Av) (v : Value), ys[i]? = some y → vs[i]? = some v → AvR β F w y v := by
    intro p ys e hp
    obtain ⟨vs, h1, h2, h3⟩ := resPs_sound hS _ p ys e hp
    refine ⟨vs, ?_, h2, h3⟩
    have e2 : (results fn a.tmps) = (do let vs ← fn.results.mapM (m := Sem) (resV a.tmps); pure (if h : vs.size = 1 then vs[0] else .tuple vs)) := by
      unfold results
      congr 1
    rw [e2, Array.mapM_eq_mapM_toList]
    simp only [Sem.run_bind, Sem.run_map, h1, Result.andThen_ok, Sem.run_pure]
  split at h
  · rename_i p x e
    simp only [Option.some.injEq, Prod.mk.injEq] at h
    obtain ⟨rfl, rfl⟩ := h
    obtain ⟨vs, h1, h2, h3⟩ := key _ _ e hp
    match vs, h2 with
    | [v], _ => exact ⟨v, by simpa using h1, h3 0 _ v rfl rfl⟩
  · rename_i p xs hne e
    simp only [Option.some.injEq, Prod.mk.injEq] at h
    obtain ⟨rfl, rfl⟩ := h
    obtain ⟨vs, h1, h2, h3⟩ := key _ _ e hp
    have hn : vs.toArray.size ≠ 1 := by
      intro h
      have : xs.length = 1 := by rw [← h2]; simpa using h
      obtain ⟨x, rfl⟩ := List.length_eq_one_iff.1 this
      exact hne x rfl
    rw [dif_neg hn] at h1
    exact ⟨_, h1, .tup _ _ (by simpa using h2) fun i y v hy hv => h3 i y v hy (by simpa using hv)⟩
  · cases h

/-- The end of a call. -/
theorem N_ret {P : Program} {E : Env} {σ : St} {fn : Func} {ps : List Prop} {r res : Av} {bor' news : List Blk} {nb : Nat} (ks : List Nat) (hr : resP P σ fn.results.toList = some (ps, r)) (hp : AllP ps) (hf : Fin σ r nb ks res bor' news)
    (hnb : E.nb = nb) (hlb : bor'.length = nb) (hlv : AllP ((ordL 0 bor').map fun p => p.2 ≠ .gone)) :
    N E (bodyPost P fn fun e w' => ∃ v β' F', e = .returned v ∧ AvR β' F' w' res v ∧ (∀ i b, bor'[i]? = some b → BlkR β' F' w' i b) ∧ (∀ i b, news[i]? = some b → BlkR β' F' w' (nb + i) b) ∧ Out E.w0 E.M E.F0 nb news.length E.β0 β' F' w') .ret σ := by
  intro a w hS
  obtain ⟨β, F, hS⟩ := hS
  obtain ⟨v, h1, h2⟩ := resP_sound hS hr hp
  obtain ⟨β', F', g1, g2, g3, g4⟩ := out_of_fin hS h2 hnb hlb hf hlv
  exact ⟨hS.df, v, h1, v, β', F', rfl, g1, g2, g3, g4⟩

theorem N_end {P : Program} {E : Env} {σ : St} {fn : Func} {ps : List Prop} {r res : Av} {bor' news : List Blk} {nb : Nat} (ks : List Nat) (hr : resP P σ fn.results.toList = some (ps, r)) (hp : AllP ps) (hf : Fin σ r nb ks res bor' news)
    (hnb : E.nb = nb) (hlb : bor'.length = nb) (hlv : AllP ((ordL 0 bor').map fun p => p.2 ≠ .gone)) :
    N E (bodyPost P fn fun e w' => ∃ v β' F', e = .returned v ∧ AvR β' F' w' res v ∧ (∀ i b, bor'[i]? = some b → BlkR β' F' w' i b) ∧ (∀ i b, news[i]? = some b → BlkR β' F' w' (nb + i) b) ∧ Out E.w0 E.M E.F0 nb news.length E.β0 β' F' w') .normal σ := by
  intro a w hS
  obtain ⟨β, F, hS⟩ := hS
  obtain ⟨v, h1, h2⟩ := resP_sound hS hr hp
  obtain ⟨β', F', g1, g2, g3, g4⟩ := out_of_fin hS h2 hnb hlb hf hlv
  exact ⟨hS.df, v, h1, v, β', F', rfl, g1, g2, g3, g4⟩

/-! Calls. -/

/-- The number of the i-th new block of the operation that writes slot d. -/
def nk (d : Option Nat) (i : Nat) : Nat := 64 + (d.getD 0) + 1000 * i
def St.kills (σ : St) : List Nat → St
  | [] => σ
  | k :: ks => (σ.kill k).kills ks
def newKeys (d : Option Nat) : Nat → List Nat
  | 0 => []
  | n + 1 => newKeys d n ++ [nk d n]
def St.sets (σ : St) : List (Nat × Blk) → St
  | [] => σ
  | (j, b) :: l => (σ.seth j b).sets l

theorem SRb.kills {E : Env} {F : Nat → Prop} {a : Act} {w : World} : ∀ (ks : List Nat) {β : Nat → Option Nat} {σ : St}, SRb E β F σ a w → (∀ k, k ∈ ks → E.nb ≤ k) → ∃ β', SRb E β' F (σ.kills ks) a w ∧ ∀ k, (β k = none ∨ k ∈ ks) → β' k = none
  | [], β, σ, h, _ => ⟨β, h, fun k hk => hk.elim id (fun h => by cases h)⟩
  | k :: ks, β, σ, h, hk => by
    obtain ⟨β', h1, h2⟩ := SRb.kills ks (h.kill k (hk k (List.mem_cons_self ..))) (fun j hj => hk j (List.mem_cons_of_mem _ hj))
    refine ⟨β', h1, fun j hj => h2 j ?_⟩
    rcases hj with hj | hj
    · left
      show (if j = k then none else β j) = none
      split
      · rfl
      · exact hj
    · cases hj with
      | head => left; simp
      | tail _ hj => exact .inr hj

theorem hp_sets : ∀ (l : List (Nat × Blk)) (σ : St) (j : Nat), (∀ p, p ∈ l → p.1 ≠ j) → (σ.sets l).hp j = σ.hp j
  | [], σ, j, _ => rfl
  | (k, b) :: l, σ, j, h => by
    simp only [St.sets]
    rw [hp_sets l _ j (fun p hp => h p (List.mem_cons_of_mem _ hp))]
    have : j ≠ k := fun e => h (k, b) (List.mem_cons_self ..) e.symm
    simp [St.seth, this]
theorem tm_sets : ∀ (l : List (Nat × Blk)) (σ : St), (σ.sets l).tm = σ.tm
  | [], σ => rfl
  | (k, b) :: l, σ => by simp only [St.sets]; rw [tm_sets l]; rfl
theorem hp_sets_mem : ∀ (l : List (Nat × Blk)) (σ : St) (j : Nat) (b : Blk), (l.map (·.1)).Nodup → (j, b) ∈ l → (σ.sets l).hp j = b
  | (k, c) :: l, σ, j, b, hnd, h => by
    simp only [List.map_cons, List.nodup_cons] at hnd
    simp only [St.sets]
    cases h with
    | head =>
      rw [hp_sets l _ k (fun p hp e => hnd.1 (List.mem_map.2 ⟨p, hp, e⟩))]
      simp [St.seth]
    | tail _ h => exact hp_sets_mem l _ j b hnd.2 h

/-- The caller's number of a contract's block. -/
def crho (bs : List Nat) (d : Option Nat) (nn : Nat) (i : Nat) : Nat :=
  match Nat.blt i bs.length with
  | true => bs.getD i 0
  | false => nk d (i - bs.length)

/-- The values of a list of operands. -/
def oxs (σ : St) : List Operand → List Prop × List Av
  | [] => ([], [])
  | x :: l => ((ox σ x).1 ++ (oxs σ l).1, (ox σ x).2 :: (oxs σ l).2)
theorem oxs_R {E : Env} {β : Nat → Option Nat} {F : Nat → Prop} {σ : St} {a : Act} {w : World} (h : SRb E β F σ a w) : ∀ (l : List Operand), AllP (oxs σ l).1 → (oxs σ l).2.length = l.length ∧ ∀ (i : Nat) (y : Av) (v : Value), (oxs σ l).2[i]? = some y → (l.map a.eval)[i]? = some v → AvR β F w y v
  | [], _ => ⟨rfl, fun i y v hy => by simp [oxs] at hy⟩
  | x :: l, hp => by
    obtain ⟨h1, h2⟩ := oxs_R h l hp.right
    refine ⟨by simp [oxs, h1], fun i y v hy hv => ?_⟩
    match i, hy, hv with
    | 0, hy, hv =>
      simp [oxs] at hy hv
      subst hy; subst hv
      exact oxR h x hp.left
    | i + 1, hy, hv => exact h2 i y v (by simpa [oxs] using hy) (by simpa using hv)

/-- What is asked at a call, of the state behind the killing of the new numbers. -/
structure CallOk (σ : St) (ys : List Av) (xs : List Av) (bor : List Blk) (res : Av) (bor' news : List Blk) (bs : List Nat) (d : Option Nat) : Prop where
  cargs : ys = xs.map (Av.ren (crho bs d news.length))
  cbor : AllP ((ordL 0 bor).map fun p => σ.hp (bs.getD p.1 0) = p.2.ren (crho bs d news.length))
  cgone : AllP ((ordL 0 bor).map fun p => p.2 ≠ .gone)
  cok : (xs.all (Av.ok bs.length) && bor.all (Blk.ok bs.length) && res.ok (bs.length + news.length) && bor'.all (Blk.ok (bs.length + news.length)) && news.all (Blk.ok (bs.length + news.length)) &&
    Nat.beq bs.length bor.length && decide (bs ++ newKeys d news.length).Nodup) = true

theorem mem_newKeys {d : Option Nat} : ∀ (n k : Nat), k ∈ newKeys d n ↔ ∃ i, i < n ∧ k = nk d i
  | 0, k => by simp [newKeys]
  | n + 1, k => by
    simp only [newKeys, List.mem_append, mem_newKeys n k, List.mem_singleton]
    constructor
    · rintro (⟨i, h1, h2⟩ | h)
      · exact ⟨i, by omega, h2⟩
      · exact ⟨n, by omega, h⟩
    · rintro ⟨i, h1, h2⟩
      by_cases hi : i = n
      · subst hi; exact .inr h2
      · exact .inl ⟨i, by omega, h2⟩

/-- A list zipped with what stands there. -/
def zipB : List Nat → List Blk → List (Nat × Blk)
  | j :: js, b :: bs => (j, b) :: zipB js bs
  | _, _ => []
theorem zipB_fst : ∀ (js : List Nat) (bs : List Blk), js.length = bs.length → (zipB js bs).map (·.1) = js
  | [], [], _ => rfl
  | j :: js, b :: bs, h => by simp [zipB, zipB_fst js bs (by simpa using h)]
theorem zipB_mem : ∀ (js : List Nat) (bs : List Blk) (i j : Nat) (b : Blk), js[i]? = some j → bs[i]? = some b → (j, b) ∈ zipB js bs
  | j :: js, b :: bs, 0, j', b', h1, h2 => by simp at h1 h2; subst h1; subst h2; simp [zipB]
  | j :: js, b :: bs, i + 1, j', b', h1, h2 => List.mem_cons_of_mem _ (zipB_mem js bs i j' b' (by simpa using h1) (by simpa using h2))

/-- The state behind a call: the lent blocks as they are left, the new ones. -/
def afterCall (σ : St) (bs : List Nat) (d : Option Nat) (bor' news : List Blk) : St :=
  (σ.sets (zipB bs (bor'.map (Blk.ren (crho bs d news.length))))).sets (zipB (newKeys d news.length) (news.map (Blk.ren (crho bs d news.length))))

theorem newKeys_get {d : Option Nat} : ∀ (n i : Nat), i < n → (newKeys d n)[i]? = some (nk d i)
  | n + 1, i, h => by
    have hl : ∀ n, (newKeys d n).length = n := by intro n; induction n with
      | zero => rfl
      | succ n ih => simp [newKeys, ih]
    simp only [newKeys]
    by_cases hi : i < n
    · rw [List.getElem?_append_left (by rw [hl]; exact hi)]
      exact newKeys_get n i hi
    · obtain rfl : i = n := by omega
      rw [List.getElem?_append_right (by rw [hl]; exact Nat.le_refl _), hl]
      simp
theorem newKeys_length {d : Option Nat} (n : Nat) : (newKeys d n).length = n := by
  induction n with
  | zero => rfl
  | succ n ih => simp [newKeys, ih]

theorem Blk.ren_ne {ρ : Nat → Nat} {b : Blk} (hb : b ≠ .gone) : b.ren ρ ≠ .gone := by
  cases b with
  | gone => exact absurd rfl hb
  | cells => intro h; cases h
  | row => intro h; cases h

set_option maxHeartbeats 4000000 in
theorem call_core {P : Program} {E : Env} {σ : St} {a : Act} {w : World} {β : Nat → Option Nat} {F : Nat → Prop} {f : FuncId} {xs ys : List Av} {bor : List Blk} {res : Av} {bor' news : List Blk} {bs : List Nat} {d : Option Nat} {vs : List Value}
    (hF : Ct P f xs bor res bor' news) (hS : SRb E β F σ a w) (hnew : ∀ i, β (nk d i) = none ∨ news.length ≤ i) (hC : CallOk σ ys xs bor res bor' news bs d)
    (hvl : vs.length = ys.length) (hvs : ∀ (i : Nat) (y : Av) (v : Value), ys[i]? = some y → vs[i]? = some v → AvR β F w y v) :
    Calls P f vs.toArray w fun e w' => ∃ v, e = .returned v ∧ ∃ β' F', AvR β' F' w' (res.ren (crho bs d news.length)) v ∧ SRb E β' F' (afterCall σ bs d bor' news) a w' := by
  obtain ⟨hlen, _, hcall⟩ := hF
  obtain ⟨c1, c2, c3, c4⟩ := hC
  simp only [Bool.and_eq_true] at c4
  obtain ⟨⟨⟨⟨⟨⟨o1, o2⟩, o3⟩, o4⟩, o5⟩, o6⟩, o7⟩ := c4
  have hbl : bs.length = bor.length := Nat.eq_of_beq_eq_true o6
  have hnd : (bs ++ newKeys d news.length).Nodup := by simpa using o7
  have hndb : bs.Nodup := (List.nodup_append.1 hnd).1
  have hndk : (newKeys d news.length).Nodup := (List.nodup_append.1 hnd).2.1
  have hdis : ∀ j, j ∈ bs → j ∉ newKeys d news.length := fun j hj hk => (List.nodup_append.1 hnd).2.2 j hj j hk rfl
  have hR1 : ∀ i, i < bs.length → crho bs d news.length i = bs.getD i 0 := fun i hi => by
    simp only [crho, show Nat.blt i bs.length = true from Nat.blt_eq.symm ▸ hi]
  have hR2 : ∀ i, crho bs d news.length (bs.length + i) = nk d i := fun i => by
    have : Nat.blt (bs.length + i) bs.length = false := by
      cases h : Nat.blt (bs.length + i) bs.length with
      | false => rfl
      | true => rw [Nat.blt_eq] at h; omega
    simp only [crho, this, Nat.add_sub_cancel_left]
  have hbget : ∀ i, i < bs.length → bs[i]? = some (bs.getD i 0) := fun i hi => by simp [hi]
  have hbmem : ∀ i, i < bs.length → bs.getD i 0 ∈ bs := fun i hi => List.mem_of_getElem? (hbget i hi)
  have hbinj : ∀ i j, i < bs.length → j < bs.length → bs.getD i 0 = bs.getD j 0 → i = j := fun i j hi hj e => by
    rw [List.getD_eq_getElem?_getD, List.getD_eq_getElem?_getD, List.getElem?_eq_getElem hi, List.getElem?_eq_getElem hj, Option.getD_some, Option.getD_some] at e
    exact (List.getElem_inj hndb).1 e
  have hbor : ∀ i b, bor[i]? = some b → σ.hp (bs.getD i 0) = b.ren (crho bs d news.length) ∧ b ≠ .gone := fun i b hi => by
    have h1 := allP_map c2 _ (mem_ordL bor 0 i b hi)
    have h2 := allP_map c3 _ (mem_ordL bor 0 i b hi)
    exact ⟨by simpa using h1, by simpa using h2⟩
  have hren : ∀ b : Blk, b ≠ .gone → b.ren (crho bs d news.length) ≠ .gone := fun b hb => Blk.ren_ne hb
  have hlive : ∀ i, i < bs.length → σ.hp (bs.getD i 0) ≠ .gone := fun i hi => by
    have h1 : bor[i]? = some (bor[i]'(by omega)) := by simp [show i < bor.length by omega]
    rw [(hbor i _ h1).1]
    exact hren _ (hbor i _ h1).2
  -- the numbers as the contract sees them
  let βc : Nat → Option Nat := fun i => if i < bs.length then β (bs.getD i 0) else none
  have hβc : ∀ i, i < bs.length → β (crho bs d news.length i) = βc i := fun i hi => by
    simp only [βc, hi, if_true, hR1 i hi]
  refine (hcall w βc F vs (by rw [hvl, c1]; simp) (fun i x v hx hv => ?_) (fun i b hi => ?_) (fun i j g hi hj e1 e2 => ?_) (fun j g hj e => ?_) (fun j hj => ?_) (fun b hb => (hS.fr b hb).1)).mono ?_
  · have hy : ys[i]? = some (x.ren (crho bs d news.length)) := by rw [c1, List.getElem?_map, hx]; rfl
    exact (hvs i _ v hy hv).unren hβc (List.all_eq_true.1 o1 x (List.mem_of_getElem? hx))
  · obtain ⟨h1, h2⟩ := hbor i b hi
    have hlt : i < bs.length := by rw [hbl]; exact (List.getElem?_eq_some_iff.1 hi).1
    refine ⟨?_, h2⟩
    refine BlkR.unren (ρ := crho bs d news.length) hβc ?_ hlt (List.all_eq_true.1 o2 b (List.mem_of_getElem? hi))
    rw [hR1 i hlt, ← h1]
    exact hS.hp _
  · simp only [βc, show i < bs.length by omega, show j < bs.length by omega, if_true] at e1 e2
    exact hbinj i j (by omega) (by omega) (hS.inj _ _ g (hlive i (by omega)) (hlive j (by omega)) e1 e2)
  · simp only [βc, show j < bs.length by omega, if_true] at e
    obtain ⟨a1, _, a3⟩ := hS.own _ g (hlive j (by omega)) e
    exact ⟨a1, a3⟩
  · simp only [βc, show ¬ j < bs.length by omega, if_false]
  · rintro e w' ⟨v, β', F', rfl, hv, hb', hn', hO⟩
    refine ⟨v, rfl, ?_⟩
    obtain ⟨q1, q2, q3, q4, q5, q6⟩ := hO
    -- the caller's numbers behind the call
    let β2 : Nat → Option Nat := fun j => if j ∈ newKeys d news.length then β' (bs.length + (j - (64 + d.getD 0)) / 1000) else β j
    have hnkd : ∀ i, (nk d i - (64 + d.getD 0)) / 1000 = i := fun i => by simp only [nk]; omega
    have hβ2k : ∀ i, i < news.length → β2 (nk d i) = β' (bs.length + i) := fun i hi => by
      simp only [β2, (mem_newKeys news.length (nk d i)).2 ⟨i, hi, rfl⟩, if_true, hnkd]
    have hβ2o : ∀ j, j ∉ newKeys d news.length → β2 j = β j := fun j hj => by simp only [β2, hj, if_false]
    have hβ2 : ∀ i, i < bs.length + news.length → β2 (crho bs d news.length i) = β' i := fun i hi => by
      rcases Nat.lt_or_ge i bs.length with h | h
      · rw [hR1 i h, hβ2o _ (hdis _ (hbmem i h)), q1 i (by omega)]
        simp only [βc, h, if_true]
      · obtain ⟨k, rfl⟩ : ∃ k, i = bs.length + k := ⟨i - bs.length, by omega⟩
        rw [hR2 k, hβ2k k (by omega)]
    have hext : ∀ j g, β j = some g → β2 j = some g := fun j g hj => by
      by_cases hm : j ∈ newKeys d news.length
      · obtain ⟨i, hi, rfl⟩ := (mem_newKeys _ _).1 hm
        rcases hnew i with h | h
        · rw [h] at hj; cases hj
        · omega
      · rw [hβ2o j hm]; exact hj
    have hMb : ∀ g, (∃ i, i < bor.length ∧ βc i = some g) → ∃ i, i < bs.length ∧ β (bs.getD i 0) = some g := by
      rintro g ⟨i, hi, e⟩
      refine ⟨i, by omega, ?_⟩
      simpa only [βc, show i < bs.length by omega, if_true] using e
    have hsame : ∀ k, k < w.heap.size → (∀ i, i < bs.length → β (bs.getD i 0) ≠ some k) → w'.heap[k]? = w.heap[k]? := fun k hk hnb => q6.block k hk fun hm => by
      obtain ⟨i, hi, e⟩ := hMb k hm
      exact hnb i hi e
    have hFs : ∀ b, F b → w'.heap[b]? = w.heap[b]? := fun b hb => hsame b (hS.fr b hb).1 fun i hi e => (hS.own _ b (hlive i hi) e).2.2 hb
    have hA : ∀ {x : Av} {u : Value}, AvR β F w x u → AvR β2 (fun b => F b ∨ F' b) w' x u := fun hx => hx.mono hext (fun b hb => ⟨.inl hb, hFs b hb⟩) q6.cap
    have hF' : ∀ b, F' b → F b ∨ w.heap.size ≤ b := fun b hb => (q5 b hb).2
    have hAv' : ∀ {x : Av} {u : Value}, AvR β' F' w' x u → AvR β' (fun b => F b ∨ F' b) w' x u := fun hx => hx.mono (fun _ _ h => h) (fun b hb => ⟨.inr hb, rfl⟩) (fun _ _ h => h)
    have hBlk' : ∀ {i : Nat} {b : Blk}, BlkR β' F' w' i b → BlkR β' (fun b => F b ∨ F' b) w' i b := fun {i b} hx => by
      cases b with
      | gone => trivial
      | cells cs =>
        obtain ⟨g, cur, hg, hr, hsz, hc⟩ := hx
        exact ⟨g, cur, hg, hr, hsz, fun k x v hx hv => (hc k x v hx hv).mono (fun _ _ h => h) (fun b hb => ⟨.inr hb, rfl⟩) (fun _ _ h => h)⟩
      | row dd =>
        cases dd with
        | ints k l => exact hx
        | recs sz l =>
          refine ⟨hx.1, ?_⟩
          rcases hx.2 with h | ⟨g, cur, hg, hr, hc⟩
          · exact .inl h
          · refine .inr ⟨g, cur, hg, hr, fun i r k x hi hk => ?_⟩
            obtain ⟨u, hu, hl⟩ := hc i r k x hi hk
            exact ⟨u, hu, hl.mono fun b hb => ⟨.inr hb, rfl⟩⟩
        | v => exact hx
        | obj => exact hx
    have hlenk : (newKeys d news.length).length = (news.map (Blk.ren (crho bs d news.length))).length := by simp [newKeys_length]
    have hlenb : bs.length = (bor'.map (Blk.ren (crho bs d news.length))).length := by simp; omega
    have hK : ∀ i, i < news.length → ∀ b, news[i]? = some b → (afterCall σ bs d bor' news).hp (nk d i) = b.ren (crho bs d news.length) := fun i hi b hb => by
      refine hp_sets_mem _ _ _ _ (by rw [zipB_fst _ _ hlenk]; exact hndk) (zipB_mem _ _ i _ _ (newKeys_get _ i hi) (by rw [List.getElem?_map, hb]; rfl))
    have hB : ∀ i, i < bs.length → ∀ b, bor'[i]? = some b → (afterCall σ bs d bor' news).hp (bs.getD i 0) = b.ren (crho bs d news.length) := fun i hi b hb => by
      unfold afterCall
      rw [hp_sets _ _ _ (fun p hp e => ?_)]
      · exact hp_sets_mem _ _ _ _ (by rw [zipB_fst _ _ hlenb]; exact hndb) (zipB_mem _ _ i _ _ (hbget i hi) (by rw [List.getElem?_map, hb]; rfl))
      · have : p.1 ∈ (zipB (newKeys d news.length) (news.map (Blk.ren (crho bs d news.length)))).map (·.1) := List.mem_map.2 ⟨p, hp, rfl⟩
        rw [zipB_fst _ _ hlenk, e] at this
        exact hdis _ (hbmem i hi) this
    have hO' : ∀ j, j ∉ newKeys d news.length → j ∉ bs → (afterCall σ bs d bor' news).hp j = σ.hp j := fun j h1 h2 => by
      unfold afterCall
      rw [hp_sets _ _ _ (fun p hp e => ?_), hp_sets _ _ _ (fun p hp e => ?_)]
      · have : p.1 ∈ (zipB bs (bor'.map (Blk.ren (crho bs d news.length)))).map (·.1) := List.mem_map.2 ⟨p, hp, rfl⟩
        rw [zipB_fst _ _ hlenb, e] at this
        exact h2 this
      · have : p.1 ∈ (zipB (newKeys d news.length) (news.map (Blk.ren (crho bs d news.length)))).map (·.1) := List.mem_map.2 ⟨p, hp, rfl⟩
        rw [zipB_fst _ _ hlenk, e] at this
        exact h1 this
    have hcase : ∀ j, (∃ i, i < news.length ∧ j = nk d i) ∨ (j ∉ newKeys d news.length ∧ ∃ i, i < bs.length ∧ j = bs.getD i 0) ∨ (j ∉ newKeys d news.length ∧ j ∉ bs) := fun j => by
      by_cases h1 : j ∈ newKeys d news.length
      · exact .inl ((mem_newKeys _ _).1 h1)
      · by_cases h2 : j ∈ bs
        · obtain ⟨i, hi, e⟩ := List.mem_iff_getElem.1 h2
          exact .inr (.inl ⟨h1, i, hi, by simp [hi, e]⟩)
        · exact .inr (.inr ⟨h1, h2⟩)
    -- a block of the contract, of the caller
    have hidx : ∀ j g, (afterCall σ bs d bor' news).hp j ≠ .gone → β2 j = some g → (∃ i, i < bs.length + news.length ∧ j = crho bs d news.length i ∧ β' i = some g) ∨ (j ∉ newKeys d news.length ∧ j ∉ bs ∧ σ.hp j ≠ .gone ∧ β j = some g) := fun j g hj e => by
      rcases hcase j with ⟨i, hi, rfl⟩ | ⟨h1, i, hi, rfl⟩ | ⟨h1, h2⟩
      · exact .inl ⟨bs.length + i, by omega, (hR2 i).symm, by rw [← hβ2k i hi]; exact e⟩
      · refine .inl ⟨i, by omega, (hR1 i hi).symm, ?_⟩
        rw [← hβ2 i (by omega), hR1 i hi]; exact e
      · refine .inr ⟨h1, h2, ?_, ?_⟩
        · rw [← hO' j h1 h2]; exact hj
        · rw [← hβ2o j h1]; exact e
    refine ⟨β2, fun b => F b ∨ F' b, (hAv' hv).ren hβ2 o3, fun i => ?_, hS.sz, hS.df, fun j => ?_, fun i j g hi hj e1 e2 => ?_, fun j g hj e => ?_, fun j g e => ?_, fun b hb => ?_, ?_, fun i hi => ?_, hS.nbl⟩
    · have : (afterCall σ bs d bor' news).tm = σ.tm := by unfold afterCall; rw [tm_sets, tm_sets]
      rw [this]
      exact hA (hS.tm i)
    · rcases hcase j with ⟨i, hi, rfl⟩ | ⟨h1, i, hi, rfl⟩ | ⟨h1, h2⟩
      · have hb : news[i]? = some news[i] := by simp [hi]
        rw [hK i hi _ hb, ← hR2 i]
        have := hn' i _ hb
        rw [← hbl] at this
        exact (hBlk' this).ren hβ2 (by omega) (List.all_eq_true.1 o5 _ (List.getElem_mem hi))
      · have hb : bor'[i]? = some (bor'[i]'(by omega)) := by simp [show i < bor'.length by omega]
        rw [hB i hi _ hb, ← hR1 i hi]
        exact (hBlk' (hb' i _ hb)).ren hβ2 (by omega) (List.all_eq_true.1 o4 _ (List.getElem_mem _))
      · rw [hO' j h1 h2]
        by_cases hgone : σ.hp j = .gone
        · rw [hgone]; trivial
        · have := (hS.hp j).mono (β' := β2) (w' := w') hext (hβ2o j h1) hFs q6.cap (fun g hg => hsame g (hS.lt j g hg) fun i hi e => h2 (hS.inj j _ g hgone (hlive i hi) hg e ▸ hbmem i hi))
          revert this
          cases σ.hp j with
          | gone => exact fun _ => trivial
          | cells cs =>
            rintro ⟨g, cur, hg, hr, hsz, hc⟩
            exact ⟨g, cur, hg, hr, hsz, fun k x v hx hv => (hc k x v hx hv).mono (fun _ _ h => h) (fun b hb => ⟨.inl hb, rfl⟩) (fun _ _ h => h)⟩
          | row dd =>
            cases dd with
            | ints k l => exact fun h => h
            | recs sz l =>
              rintro ⟨h0, h⟩
              refine ⟨h0, ?_⟩
              rcases h with h | ⟨g, cur, hg, hr, hc⟩
              · exact .inl h
              · refine .inr ⟨g, cur, hg, hr, fun i r k x hi hk => ?_⟩
                obtain ⟨u, hu, hl⟩ := hc i r k x hi hk
                exact ⟨u, hu, hl.mono fun b hb => ⟨.inl hb, rfl⟩⟩
            | v => exact fun h => h
            | obj => exact fun h => h
    · rcases hidx i g hi e1 with ⟨k, hk, rfl, e1'⟩ | ⟨h1, h2, h3, e1'⟩
      · rcases hidx j g hj e2 with ⟨k', hk', rfl, e2'⟩ | ⟨h1', h2', h3', e2'⟩
        · rw [q2 k k' g (by omega) (by omega) e1' e2']
        · exfalso
          rcases Nat.lt_or_ge k bs.length with hlt | hge
          · rw [q1 k (by omega)] at e1'
            simp only [βc, hlt, if_true] at e1'
            exact h2' (hS.inj j _ g h3' (hlive k hlt) e2' e1' ▸ hbmem k hlt)
          · obtain ⟨m, rfl⟩ : ∃ m, k = bs.length + m := ⟨k - bs.length, by omega⟩
            have := q4 m g (by omega) (by rw [← hbl]; exact e1')
            have := hS.lt j g e2'
            omega
      · rcases hidx j g hj e2 with ⟨k', hk', rfl, e2'⟩ | ⟨h1', h2', h3', e2'⟩
        · exfalso
          rcases Nat.lt_or_ge k' bs.length with hlt | hge
          · rw [q1 k' (by omega)] at e2'
            simp only [βc, hlt, if_true] at e2'
            exact h2 (hS.inj i _ g h3 (hlive k' hlt) e1' e2' ▸ hbmem k' hlt)
          · obtain ⟨m, rfl⟩ : ∃ m, k' = bs.length + m := ⟨k' - bs.length, by omega⟩
            have := q4 m g (by omega) (by rw [← hbl]; exact e2')
            have := hS.lt i g e1'
            omega
        · exact hS.inj i j g h3 h3' e1' e2'
    · rcases hidx j g hj e with ⟨k, hk, rfl, e'⟩ | ⟨h1, h2, h3, e'⟩
      · obtain ⟨a1, a2⟩ := q3 k g (by omega) e'
        refine ⟨a1, ?_, ?_⟩
        · rcases Nat.lt_or_ge k bs.length with hlt | hge
          · rw [q1 k (by omega)] at e'
            simp only [βc, hlt, if_true] at e'
            exact (hS.own _ g (hlive k hlt) e').2.1
          · obtain ⟨m, rfl⟩ : ∃ m, k = bs.length + m := ⟨k - bs.length, by omega⟩
            have := q4 m g (by omega) (by rw [← hbl]; exact e')
            exact .inl (Nat.le_trans hS.keep.size this)
        · rintro (hf | hf)
          · rcases Nat.lt_or_ge k bs.length with hlt | hge
            · rw [q1 k (by omega)] at e'
              simp only [βc, hlt, if_true] at e'
              exact (hS.own _ g (hlive k hlt) e').2.2 hf
            · obtain ⟨m, rfl⟩ : ∃ m, k = bs.length + m := ⟨k - bs.length, by omega⟩
              have := q4 m g (by omega) (by rw [← hbl]; exact e')
              have := (hS.fr g hf).1
              omega
          · exact a2 hf
      · obtain ⟨a1, a2, a3⟩ := hS.own j g h3 e'
        refine ⟨Nat.lt_of_lt_of_le a1 q6.size, a2, ?_⟩
        rintro (hf | hf)
        · exact a3 hf
        · rcases hF' g hf with h | h
          · exact a3 h
          · omega
    · by_cases hm : j ∈ newKeys d news.length
      · obtain ⟨i, hi, rfl⟩ := (mem_newKeys _ _).1 hm
        rw [hβ2k i hi] at e
        exact (q3 _ g (by omega) e).1
      · rw [hβ2o j hm] at e
        exact Nat.lt_of_lt_of_le (hS.lt j g e) q6.size
    · rcases hb with hb | hb
      · exact ⟨Nat.lt_of_lt_of_le (hS.fr b hb).1 q6.size, (hS.fr b hb).2⟩
      · refine ⟨(q5 b hb).1, ?_⟩
        rcases hF' b hb with h | h
        · exact (hS.fr b h).2
        · exact .inr (Nat.le_trans hS.keep.size h)
    · refine hS.keep.trans q6 (fun _ h => h) fun g hg hm => ?_
      obtain ⟨i, hi, e⟩ := hMb g hm
      rcases (hS.own _ g (hlive i hi) e).2.1 with h | h
      · omega
      · exact h
    · rw [hβ2o i (fun hm => ?_)]
      · exact hS.bb i hi
      · obtain ⟨k, _, e⟩ := (mem_newKeys _ _).1 hm
        have := hS.nbl
        simp only [nk] at e
        omega

end Go.Sx

/-
  Regions whose order is open, with blocks that are made in them. No condition.
-/
import Derived.Test.YtppmfjopokkhmaaSxY
namespace Go.Sx
open Go
set_option linter.unusedVariables false
set_option linter.unusedSimpArgs false

theorem SRb.weakenH {E : Env} {β : Nat → Option Nat} {F : Nat → Prop} {σ τ : St} {a : Act} {w : World} (h : SRb E β F σ a w) (h1 : ∀ i, τ.tm i = σ.tm i ∨ τ.tm i = .c .un) (h2 : ∀ k, τ.hp k = σ.hp k ∨ τ.hp k = .gone) : SRb E β F τ a w := by
  have hng : ∀ k, τ.hp k ≠ .gone → τ.hp k = σ.hp k := fun k hk => (h2 k).resolve_right hk
  refine ⟨fun i => ?_, h.sz, h.df, fun k => ?_, fun i j g hi hj => h.inj i j g (by rw [← hng i hi]; exact hi) (by rw [← hng j hj]; exact hj), fun j g hj => h.own j g (by rw [← hng j hj]; exact hj), h.lt, h.fr, h.keep, h.bb, h.nbl⟩
  · rcases h1 i with e | e
    · rw [e]; exact h.tm i
    · rw [e]; exact .any _
  · rcases h2 k with e | e
    · rw [e]; exact h.hp k
    · rw [e]; trivial

theorem newBlk2 {E : Env} {σ : St} {β : Nat → Option Nat} {F : Nat → Prop} {a : Act} {w : World} {j : Nat} (h : SRb E β F σ a w) (hj : β j = none) (hjb : E.nb ≤ j) (hgone : σ.hp j = .gone) {cur : Array Value} {t : TypeId} {cs : List Cell}
    (hsz : cur.size = cs.length) (hc : ∀ (i : Nat) (x : Cell) (v : Value), cs[i]? = some x → cur[i]? = some v → CellR β F w x v) :
    SRb E (fun i => if i = j then some w.heap.size else β i) F (σ.seth j (.cells cs)) a (w.alloc (.cells cur t)) ∧ (fun i => if i = j then some w.heap.size else β i) j = some w.heap.size := by
  have hβ : ∀ i g, β i = some g → (if i = j then some w.heap.size else β i) = some g := by
    intro i g hi
    rw [if_neg (by intro e; subst e; rw [hj] at hi; cases hi)]; exact hi
  have hs : ∀ k, k < w.heap.size → (w.alloc (.cells cur t)).heap[k]? = w.heap[k]? := fun k hk => RowKit.Below.heap_alloc w _ k hk
  obtain ⟨h1, h2⟩ := h.alloc hj hjb hgone (.cells cur t) (.cells cs) ⟨w.heap.size, cur, by simp, row_alloc cur t, hsz, fun i x v hx hv =>
    (hc i x v hx hv).mono hβ (fun b hb => ⟨hb, hs b (h.fr b hb).1⟩) (fun g n hc => hc.same (hs g hc.lt))⟩
  exact ⟨h1, by simp⟩

def hpA (σ : St) (l : List Oper) (Y : Nat → Option (List Cell)) (done : Nat → Bool) : Nat → Blk := fun k =>
  match (if 64 ≤ k then fnd l (k - 64) 0 else none) with
  | some i => (match Y i with | some cs => (match done i with | true => .cells cs | false => .gone) | none => σ.hp k)
  | none => σ.hp k
def stA (σ : St) (l : List Oper) (T : Nat → Av) (Y : Nat → Option (List Cell)) (done : Nat → Bool) : St := ⟨(stD σ l T done).tm, hpA σ l Y done⟩

section
variable {P : Program} {E : Env} {ops : Array Oper} {Q : Exit → Act → World → Prop} {σ : St}

theorem draw_anyA {l lt : List Oper} {n : Nat} {T : Nat → Av} {Y : Nat → Option (List Cell)} (hT : lt.length = ops.size - n) (hTl : ∀ j, lt[j]? = ops[n + j]?) (hB : drawB ops l n = true) (hl : ∀ s i, fnd l s 0 = some i → i < n ∧ (ops[i]?).bind (·.dst) = some s) (hE : ∀ d o i, i < n → ops[i]? = some o → o.dst = some d → d < E.n)
    (hop : ∀ (i : Nat) (o : Oper), i < n → ops[i]? = some o → Y i = none → OpQ P E ops o (stD σ l T (fun j => memB j (depsOf o))) (T i))
    (hal : ∀ (i : Nat) (o : Oper) (cs : List Cell), i < n → ops[i]? = some o → Y i = some cs → ∃ t d, o.op = .alloc t ∧ o.guard = none ∧ o.dst = some d ∧ zeroC P t = some cs ∧ zeroOk P t ∧ T i = .c (.ptr (nk (some d) 0) 0) ∧ σ.hp (nk (some d) 0) = .gone)
    (hk : ∀ a w, SR E (stA σ l T Y (fun _ => true)) a w → wpList P ops Q lt a w) :
    ∀ (m : Nat) (listed : Array Bool) (a : Act) (w : World), cnt (fun j => !listed.getD j true) n = m → HeadInv .any ops n listed → (∃ β F, SRb E β F (stA σ l T Y (fun j => listed.getD j false)) a w ∧ ∀ (i d : Nat) (cs : List Cell), fnd l d 0 = some i → Y i = some cs → listed.getD i false = false → β (nk (some d) 0) = none) →
      wpAny P .any ops Q (m + (ops.size - n)) listed a w := by
  simp only [drawB, Bool.and_eq_true, Bool.or_eq_true, List.all_eq_true, List.mem_range] at hB
  obtain ⟨⟨⟨hB1, hB2⟩, hB3⟩, hB4⟩ := hB
  have hn : n ≤ ops.size := Nat.le_of_ble_eq_true hB1
  intro m
  induction m with
  | zero =>
    intro listed a w hc hI hS
    have hall := cnt_zero n hc
    have e : listed = (List.replicate n true ++ List.replicate (ops.size - n) false).toArray := by
      apply Array.ext_getElem?
      intro i
      simp only [List.getElem?_toArray]
      rcases Nat.lt_or_ge i n with h | h
      · rw [List.getElem?_append_left (by simpa using h)]
        have h1 := hall i h
        have hs : i < listed.size := by rw [hI.size]; omega
        simp [hs] at h1
        simp [hs, h, h1]
      · rw [List.getElem?_append_right (by simpa using h)]
        rcases Nat.lt_or_ge i ops.size with h' | h'
        · have h1 := hI.tail i h h'
          have hs : i < listed.size := by rw [hI.size]; exact h'
          simp [hs] at h1
          simp [hs, h1, show i - n < ops.size - n by omega]
        · have hs : ¬ i < listed.size := by rw [hI.size]; omega
          simp [hs, show ¬ i - n < ops.size - n by omega]
    rw [Nat.zero_add]
    have hlis : ∀ i, i < n → listed.getD i false = true := by
      intro i hi
      have h1 := hall i hi
      have hs : i < listed.size := by rw [hI.size]; omega
      simp [hs] at h1
      simp [hs, h1]
    have hst : stA σ l T Y (fun j => listed.getD j false) = stA σ l T Y (fun _ => true) := by
      simp only [stA, stD, St.mk.injEq]
      constructor
      · funext s
        split
        · rename_i i hi
          rw [hlis i (hl s i hi).1]
        · rfl
      · funext k
        simp only [hpA]
        split
        · rename_i i hi
          have hin : i < n := by
            split at hi
            · exact (hl _ i hi).1
            · cases hi
          rw [hlis i hin]
        · rfl
    obtain ⟨β, F, hS, _⟩ := hS
    have hS : SR E (stA σ l T Y (fun j => listed.getD j false)) a w := ⟨β, F, hS⟩
    rw [hst] at hS
    have := wpAny_of_seq (md := .any) (P := P) (Q' := Q) lt n listed a w hTl (by rw [hT, e]; exact hB3) (hk a w hS)
    rwa [hT] at this
  | succ m ih =>
    intro listed a w hc hI hS
    have hne : cnt (fun j => !listed.getD j true) n ≠ 0 := by omega
    obtain ⟨i0, h1, h2, h3⟩ := cnt_least n hne
    have h2' : listed.getD i0 true = false := by simpa using h2
    have hr0 : i0 ∈ Region.ready .any ops listed := by
      refine mem_ready.2 ⟨h2', ?_⟩
      have := hB4 i0 h1
      split at this
      · rename_i o ho
        simp only [Bool.and_eq_true, List.all_eq_true] at this
        refine ⟨o, ho, fun e he _ => ?_⟩
        have h4 : e.on < i0 := blt_lt (this.1 e (by simpa using he))
        have h5 := h3 e.on h4
        have hs : e.on < listed.size := by rw [hI.size]; omega
        simp [hs] at h5
        simp [hs, h5]
      · cases this
    rw [show m + 1 + (ops.size - n) = m + (ops.size - n) + 1 by omega]
    refine ⟨fun h => (by rw [h] at hr0; cases hr0), fun i hi => ?_⟩
    have hin : i < n := by
      rcases Nat.lt_or_ge i n with h | h
      · exact h
      · rcases hB2 with hB2 | hB2
        · have e : n = ops.size := Nat.eq_of_beq_eq_true hB2
          obtain ⟨_, o, ho, _⟩ := mem_ready.1 hi
          have := (Array.getElem?_eq_some_iff.1 ho).1
          omega
        · by_cases hns : n < ops.size
          · exact absurd hi (tail_waits hB2.1 hB2.2 hns hI _ i0 rfl h1 h2' i h)
          · obtain ⟨_, o, ho, _⟩ := mem_ready.1 hi
            have := (Array.getElem?_eq_some_iff.1 ho).1
            omega
    obtain ⟨hun, o, ho, hdeps⟩ := mem_ready.1 hi
    have hB4i := hB4 i hin
    rw [ho] at hB4i
    simp only [Bool.and_eq_true] at hB4i
    obtain ⟨β, F, hS, hno⟩ := hS
    have hmemb : ∀ (x : Nat) (l : List Nat), memB x l = true → x ∈ l := by
      intro x l
      induction l with
      | nil => intro h; cases h
      | cons y l ih =>
        intro h
        simp only [memB] at h
        split at h
        · rename_i e; rw [Nat.eq_of_beq_eq_true e]; exact List.mem_cons_self ..
        · exact List.mem_cons_of_mem _ (ih h)
    have hsz : i < listed.size := by rw [hI.size]; omega
    have hunf : listed.getD i false = false := by simp [hsz] at hun ⊢; exact hun
    have hcnt : cnt (fun j => !(listed.setIfInBounds i true).getD j true) n = m := by
      have := cnt_set (f := fun j => !listed.getD j true) (f' := fun j => !(listed.setIfInBounds i true).getD j true) (i := i) (by simp [hun]) (by simp [hsz]) (fun j hj => by
        simp only [getD_set_ne true (Ne.symm hj)]) n
      rw [if_pos hin] at this
      omega
    have hfd : ∀ d, o.dst = some d → fnd l d 0 = some i := by
      intro d hd
      have := hB4i.2
      rw [hd] at this
      dsimp only at this
      split at this
      · rename_i j hj; rw [hj, Nat.eq_of_beq_eq_true this]
      · cases this
    have htm : ∀ (x : Av) (s : Nat), x = T i → ((stA σ l T Y (fun j => (listed.setIfInBounds i true).getD j false)).tm s = match o.dst with | some d => (if s = d then x else (stA σ l T Y (fun j => listed.getD j false)).tm s) | none => (stA σ l T Y (fun j => listed.getD j false)).tm s) := by
      intro x s hx
      have other : ∀ j, fnd l s 0 = some j → j ≠ i → (listed.setIfInBounds i true).getD j false = listed.getD j false := fun j _ hji => getD_set_ne false (Ne.symm hji)
      cases hd : o.dst with
      | none =>
        dsimp only
        simp only [stA, stD]
        split
        · rename_i j hj
          have hjs := (hl s j hj).2
          have hji : j ≠ i := by rintro rfl; rw [ho] at hjs; simp [hd] at hjs
          rw [other j hj hji]
        · rfl
      | some d =>
        dsimp only
        by_cases hsd : s = d
        · subst hsd
          simp only [stA, stD, hfd s hd, if_true]
          simp [hsz, hx]
        · rw [if_neg hsd]
          simp only [stA, stD]
          split
          · rename_i j hj
            have hji : j ≠ i := by
              rintro rfl
              have h5 := (hl s j hj).2
              rw [ho] at h5
              simp [hd] at h5
              exact hsd h5.symm
            rw [other j hj hji]
          · rfl
    cases hY : Y i with
    | none =>
      have hhp : hpA σ l Y (fun j => (listed.setIfInBounds i true).getD j false) = hpA σ l Y (fun j => listed.getD j false) := by
        funext k
        simp only [hpA]
        split
        · rename_i j hj
          by_cases hji : j = i
          · subst hji; rw [hY]
          · rw [getD_set_ne false (Ne.symm hji)]
        · rfl
      have hmin : SRb E β F (stD σ l T (fun j => memB j (depsOf o))) a w := by
        refine hS.weakenH (fun s => ?_) (fun k => ?_)
        · simp only [stA, stD]
          split
          · rename_i j hj
            cases hm : memB j (depsOf o) with
            | false => exact .inr rfl
            | true =>
              left
              have := hmemb _ _ hm
              simp only [depsOf, List.mem_map, List.mem_filter] at this
              obtain ⟨e, ⟨he1, he2⟩, rfl⟩ := this
              rw [hdeps e (by simpa using he1) he2]
          · exact .inl rfl
        · simp only [stA, stD, hpA]
          split
          · rename_i j hj
            cases hYj : Y j with
            | none => exact .inl rfl
            | some cs =>
              right
              split at hj
              · rename_i h64
                obtain ⟨h6, h7⟩ := hl _ j hj
                obtain ⟨oj, ho1, ho2⟩ := Option.bind_eq_some_iff.1 h7
                obtain ⟨t, d, _, _, g3, _, _, _, g7⟩ := hal j oj cs h6 ho1 hYj
                rw [g3] at ho2
                obtain rfl := Option.some.inj ho2
                rw [← g7]
                congr 1
                simp only [nk, Option.getD_some]
                omega
              · cases hj
          · exact .inl rfl
      have hq := hop i o hin ho hY β F a w hmin (fun a' w' => wpAny P .any ops Q (m + (ops.size - n)) (listed.setIfInBounds i true) a' w') Q fun v w' F' g1 g2 g3 g4 => by
        refine ih _ _ _ hcnt (hI.set hi hin) ⟨β, F', ?_, fun j d cs h6 h7 h8 => ?_⟩
        · have hb := (hS.grown g1 g2 g3)
          cases hd : o.dst with
          | none =>
            refine hb.weakenH (fun s => .inl ?_) (fun k => .inl ?_)
            · have := htm (T i) s rfl
              rw [hd] at this
              exact this
            · show hpA σ l Y _ k = hpA σ l Y _ k
              rw [hhp]
          | some d =>
            have hp := hb.put (d := some d) g4 (fun k hk => by cases hk; exact hE d o i hin ho hd)
            refine hp.weakenH (fun s => .inl ?_) (fun k => .inl ?_)
            · have := htm (T i) s rfl
              rw [hd] at this
              exact this
            · show hpA σ l Y _ k = hpA σ l Y _ k
              rw [hhp]
        · refine hno j d cs h6 h7 ?_
          by_cases hji : j = i
          · subst hji; rw [hY] at h7; cases h7
          · rwa [getD_set_ne false (Ne.symm hji)] at h8
      unfold wpOp
      rw [ho]
      dsimp only
      split
      · rename_i hw; rw [if_pos hw] at hq; exact .inl hq
      · rename_i hw; rw [if_neg hw] at hq; exact hq
    | some cs =>
      obtain ⟨t, d, g1, g2, g3, g4, g5, g6, g7⟩ := hal i o cs hin ho hY
      have hfi := hfd d g3
      have hkey : nk (some d) 0 = 64 + d := by simp [nk]
      have hkk : ∀ k j, (if 64 ≤ k then fnd l (k - 64) 0 else none) = some j → (j = i ↔ k = nk (some d) 0) := by
        intro k j hj
        split at hj
        · rename_i h64
          constructor
          · rintro rfl
            have := (hl _ j hj).2
            rw [ho] at this
            simp [g3] at this
            rw [hkey]
            have h9 : d = k - 64 := this
            rw [h9]
            exact (Nat.add_sub_cancel' h64).symm
          · intro hk
            subst hk
            rw [hkey] at hj
            rw [Nat.add_sub_cancel_left, hfi] at hj
            exact (Option.some.inj hj).symm
        · cases hj
      have hβ := hno i d cs hfi hY hunf
      have hnb : E.nb ≤ nk (some d) 0 := by have := hS.nbl; rw [hkey]; omega
      have hif : (if 64 ≤ nk (some d) 0 then fnd l (nk (some d) 0 - 64) 0 else none) = some i := by
        rw [hkey, if_pos (Nat.le_add_right _ _), Nat.add_sub_cancel_left, hfi]
      have hgone : (stA σ l T Y (fun j => listed.getD j false)).hp (nk (some d) 0) = .gone := by
        simp only [stA, hpA, hif, hY, hunf]
      obtain ⟨z, z1, z2, z3⟩ := zeroC_sound g4 g5 β F w
      obtain ⟨hS2, h4⟩ := newBlk2 (t := t) hS hβ hnb hgone z2 z3
      have hrun : (execOp a.eval o).run P w = .ok (.value (.pointer (some ⟨w.heap.size, 0, none⟩))) (w.alloc (.cells z.cells t)) := by
        simp [execOp, g1, Instr.alloc, z1, newVar, newRow]
      have hfin := ih (listed.setIfInBounds i true) (a.put o.dst (.pointer (some ⟨w.heap.size, 0, none⟩))) (w.alloc (.cells z.cells t)) hcnt (hI.set hi hin) ⟨fun q => if q = nk (some d) 0 then some w.heap.size else β q, F, ?_, fun j d' cs' h6 h7 h8 => ?_⟩
      · unfold wpOp
        rw [ho]
        dsimp only
        rw [show Region.wanted o (yielded ops a.tmps) = true by simp [Region.wanted, g2], if_pos rfl]
        left
        unfold Oper.wp
        rw [hrun]
        exact hfin
      · have hp := hS2.put (d := some d) (x := T i) (v := .pointer (some ⟨w.heap.size, 0, none⟩)) (by rw [g6]; exact .c (.ptr _ _ _ h4)) (fun k hk => by cases hk; exact hE d o i hin ho g3)
        rw [g3]
        refine hp.weakenH (fun s => .inl ?_) (fun k => .inl ?_)
        · have := htm (T i) s rfl
          rw [g3] at this
          exact this
        · show hpA σ l Y _ k = (if k = nk (some d) 0 then .cells cs else hpA σ l Y _ k)
          by_cases hk : k = nk (some d) 0
          · subst hk
            rw [if_pos rfl]
            simp only [hpA, hif, hY]
            simp [hsz]
          · rw [if_neg hk]
            simp only [hpA]
            split
            · rename_i j hj
              have hji : j ≠ i := fun e => hk ((hkk k j hj).1 e)
              rw [getD_set_ne false (Ne.symm hji)]
            · rfl
      · have hji : j ≠ i := by
          rintro rfl
          simp [hsz] at h8
        rw [getD_set_ne false (Ne.symm hji)] at h8
        have := hno j d' cs' h6 h7 h8
        have hne : nk (some d') 0 ≠ nk (some d) 0 := by
          intro e
          simp only [nk, Option.getD_some] at e
          have : d' = d := by omega
          subst this
          rw [hfi] at h6
          exact hji (Option.some.inj h6).symm
        show (if nk (some d') 0 = nk (some d) 0 then some w.heap.size else β (nk (some d') 0)) = none
        rw [if_neg hne]
        exact this


def isAl (o : Oper) : Bool := match o.op with | .alloc _ => true | _ => false
def St.seths (σ : St) : List (Nat × Blk) → St
  | [] => σ
  | (k, b) :: pd => (σ.seths pd).seth k b
/-- The walk of a region in which blocks are made; the blocks stand aside until its end. -/
def DrawA (P : Program) (E : Env) (ops : Array Oper) : List Oper → St → List (Nat × Blk) → (St → Prop) → Prop
  | [], σ, pd, K => K (σ.seths pd)
  | o :: l, σ, pd, K => (∃ x, OpS P E ops o σ x ∧ DrawA P E ops l (σ.put o.dst x) pd K) ∨
      (∃ t d cs, o.op = .alloc t ∧ o.guard = none ∧ o.dst = some d ∧ zeroC P t = some cs ∧ zeroOk P t ∧ σ.hp (nk (some d) 0) = .gone ∧ DrawA P E ops l (σ.put (some d) (.c (.ptr (nk (some d) 0) 0))) ((nk (some d) 0, .cells cs) :: pd) K)
theorem DrawA_nil {pd : List (Nat × Blk)} {K : St → Prop} (h : K (σ.seths pd)) : DrawA P E ops [] σ pd K := h
theorem DrawA_op {o : Oper} {l : List Oper} {x : Av} {pd : List (Nat × Blk)} {K : St → Prop} {d : Option Nat} (hd : forceO o.dst some = some d) (h : OpS P E ops o σ x) (hk : DrawA P E ops l (σ.put d x) pd K) : DrawA P E ops (o :: l) σ pd K := by
  simp only [forceO_eq, Option.some.injEq] at hd
  subst hd
  exact .inl ⟨x, h, hk⟩
theorem DrawA_al {o : Oper} {l : List Oper} {t : TypeId} {d : Nat} {cs : List Cell} {pd : List (Nat × Blk)} {K : St → Prop} (hop : o.op = .alloc t) (hg : o.guard = none) (hd : o.dst = some d) (hz : forceOL (zeroC P t) some = some cs) (hz0 : zeroOk P t) (hgone : σ.hp (nk (some d) 0) = .gone)
    (hk : DrawA P E ops l (σ.put (some d) (.c (.ptr (nk (some d) 0) 0))) ((nk (some d) 0, .cells cs) :: pd) K) : DrawA P E ops (o :: l) σ pd K :=
  .inr ⟨t, d, cs, hop, hg, hd, forceOL_some hz, hz0, hgone, hk⟩

def pdn : Option (List Cell) → Option Nat → List (Nat × Blk) → List (Nat × Blk)
  | some cs, some d, pd => (nk (some d) 0, .cells cs) :: pd
  | _, _, pd => pd
theorem pdn_none (d : Option Nat) (pd : List (Nat × Blk)) : pdn none d pd = pd := rfl
theorem pdn_no (y : Option (List Cell)) (pd : List (Nat × Blk)) : pdn y none pd = pd := by cases y <;> rfl
theorem pdn_some (cs : List Cell) (d : Nat) (pd : List (Nat × Blk)) : pdn (some cs) (some d) pd = (nk (some d) 0, .cells cs) :: pd := rfl
def pdf : List Oper → List (Option (List Cell)) → List (Nat × Blk) → List (Nat × Blk)
  | o :: l, y :: ys, pd => pdf l ys (pdn y o.dst pd)
  | _, _, pd => pd

theorem drawA_out : ∀ (l : List Oper) (σ : St) (pd : List (Nat × Blk)) (K : St → Prop), DrawA P E ops l σ pd K → ∃ (xs : List Av) (ys : List (Option (List Cell))), xs.length = l.length ∧ ys.length = l.length ∧
    (∀ (i : Nat) (o : Oper) (x : Av), l[i]? = some o → xs[i]? = some x → ys[i]? = some none → OpS P E ops o (pre σ (l.take i) (xs.take i)) x) ∧
    (∀ (i : Nat) (o : Oper) (x : Av) (cs : List Cell), l[i]? = some o → xs[i]? = some x → ys[i]? = some (some cs) → ∃ t d, o.op = .alloc t ∧ o.guard = none ∧ o.dst = some d ∧ zeroC P t = some cs ∧ zeroOk P t ∧ x = .c (.ptr (nk (some d) 0) 0) ∧ σ.hp (nk (some d) 0) = .gone) ∧
    K ((pre σ l xs).seths (pdf l ys pd))
  | [], σ, pd, K, h => ⟨[], [], rfl, rfl, fun i o x h => by simp at h, fun i o x cs h => by simp at h, h⟩
  | o :: l, σ, pd, K, h => by
    rcases h with ⟨x, h1, h2⟩ | ⟨t, d, cs, g1, g2, g3, g4, g5, g6, h2⟩
    · obtain ⟨xs, ys, k1, k2, k3, k4, k5⟩ := drawA_out l _ pd K h2
      refine ⟨x :: xs, none :: ys, by simp [k1], by simp [k2], fun i o' x' ho hx hy => ?_, fun i o' x' cs ho hx hy => ?_, k5⟩
      · match i, ho, hx, hy with
        | 0, ho, hx, _ => simp at ho hx; subst ho; subst hx; exact h1
        | i + 1, ho, hx, hy => simpa [pre] using k3 i o' x' (by simpa using ho) (by simpa using hx) (by simpa using hy)
      · match i, ho, hx, hy with
        | 0, ho, hx, hy => simp at hy
        | i + 1, ho, hx, hy =>
          obtain ⟨t, d, q1, q2, q3, q4, q5, q6, q7⟩ := k4 i o' x' cs (by simpa using ho) (by simpa using hx) (by simpa using hy)
          have e : (σ.put o.dst x).hp = σ.hp := by cases o.dst <;> rfl
          rw [e] at q7
          exact ⟨t, d, q1, q2, q3, q4, q5, q6, q7⟩
    · obtain ⟨xs, ys, k1, k2, k3, k4, k5⟩ := drawA_out l _ _ K h2
      refine ⟨.c (.ptr (nk (some d) 0) 0) :: xs, some cs :: ys, by simp [k1], by simp [k2], fun i o' x' ho hx hy => ?_, fun i o' x' cs' ho hx hy => ?_, ?_⟩
      · match i, ho, hx, hy with
        | 0, ho, hx, hy => simp at hy
        | i + 1, ho, hx, hy =>
          have := k3 i o' x' (by simpa using ho) (by simpa using hx) (by simpa using hy)
          simp only [List.take_succ_cons, pre, g3]
          exact this
      · match i, ho, hx, hy with
        | 0, ho, hx, hy =>
          simp at ho hx hy
          subst ho; subst hx; subst hy
          exact ⟨t, d, g1, g2, g3, g4, g5, rfl, g6⟩
        | i + 1, ho, hx, hy => exact k4 i o' x' cs' (by simpa using ho) (by simpa using hx) (by simpa using hy)
      · simp only [pre, pdf, g3]
        exact k5

theorem seths_tm (τ : St) : ∀ pd : List (Nat × Blk), (τ.seths pd).tm = τ.tm
  | [] => rfl
  | (k, b) :: pd => by simp only [St.seths, St.seth]; exact seths_tm τ pd
theorem pdf_hp (τ : St) : ∀ (l : List Oper) (ys : List (Option (List Cell))) (pd : List (Nat × Blk)) (k : Nat), freshB l = true → ys.length = l.length → (∀ (i : Nat) (o : Oper) (cs : List Cell), l[i]? = some o → ys[i]? = some (some cs) → ∃ d, o.dst = some d) →
    (τ.seths (pdf l ys pd)).hp k = match (if 64 ≤ k then fnd l (k - 64) 0 else none) with | some i => (match ys.getD i none with | some cs => .cells cs | none => (τ.seths pd).hp k) | none => (τ.seths pd).hp k
  | [], ys, pd, k, _, _, _ => by cases ys <;> simp [pdf, fnd]
  | o :: l, [], pd, k, _, hl, _ => by simp at hl
  | o :: l, y :: ys, pd, k, hf, hl, hd => by
    simp only [freshB, Bool.and_eq_true] at hf
    have ih := pdf_hp τ l ys (pdn y o.dst pd) k hf.2 (by simpa using hl) (fun i o' cs h1 h2 => hd (i + 1) o' cs (by simpa using h1) (by simpa using h2))
    simp only [pdf]
    rw [ih]
    by_cases h64 : 64 ≤ k
    · simp only [h64, if_true]
      simp only [fnd]
      rw [fnd_shift l (k - 64) (0 + 1)]
      cases hod : o.dst with
      | none =>
        have hy : y = none := by
          cases y with
          | none => rfl
          | some cs =>
            obtain ⟨d, h⟩ := hd 0 o cs (by simp) (by simp)
            rw [hod] at h; cases h
        subst hy
        rw [pdn_none]
        cases fnd l (k - 64) 0 <;> simp
      | some d =>
        rw [hod] at hf
        dsimp only
        cases hb : Nat.beq d (k - 64) with
        | true =>
          have hdk : d = k - 64 := Nat.eq_of_beq_eq_true hb
          have hn : fnd l (k - 64) 0 = none := by
            have := hf.1
            dsimp only at this
            rw [hdk] at this
            cases h : fnd l (k - 64) 0 with
            | none => rfl
            | some i => rw [h] at this; cases this
          have hnk : nk (some d) 0 = k := by
            simp only [nk, Option.getD_some, hdk]
            omega
          rw [hn]
          cases y with
          | none => simp [pdn_none]
          | some cs =>
            rw [pdn_some, hnk]
            simp [St.seths, St.seth]
        | false =>
          have hnk : k ≠ nk (some d) 0 := by
            intro e
            have : d = k - 64 := by
              simp only [nk, Option.getD_some] at e
              have e' : k = 64 + d := by simpa using e
              rw [e']
              exact (Nat.add_sub_cancel_left ..).symm
            rw [this, Nat.beq_refl] at hb
            cases hb
          have hrest : (τ.seths (pdn y (some d) pd)).hp k = (τ.seths pd).hp k := by
            cases y with
            | none => rfl
            | some cs => rw [pdn_some]; simp only [St.seths, St.seth, if_neg hnk]
          cases hfl : fnd l (k - 64) 0 with
          | none => simpa using hrest
          | some i =>
            simp only [Option.map_some, Nat.zero_add, List.getD_cons_succ]
            cases ys.getD i none with
            | none => exact hrest
            | some cs => rfl
    · simp only [h64, if_false]
      cases y with
      | none => rfl
      | some cs =>
        cases hod : o.dst with
        | none => rfl
        | some d =>
          have : k ≠ nk (some d) 0 := by
            intro e
            simp only [nk, Option.getD_some] at e
            have e' : k = 64 + d := by simpa using e
            exact h64 (by rw [e']; exact Nat.le_add_right _ _)
          rw [pdn_some]; simp only [St.seths, St.seth, if_neg this]

def keysIn (ks : List Nat) (l : List Oper) : Bool := l.all fun o => !isAl o || memB (nk o.dst 0) ks

theorem W_drawA {id : Nat} {l : List Oper} (n : Nat) (ks : List Nat) (hks : ks.all (Nat.ble 64) = true) (hm : P.follows .mixedOrders = true) (hB : drawB l.toArray (l.take n) n = true) (hC : drawC l.toArray (l.take n) n = true) (hA : keysIn ks (l.take n) = true) (hE : (l.take n).all (fun o => dstOk E.n o.dst) = true) {lh lt : List Oper} (hlh : l.take n = lh) (hlt : l.drop n = lt)
    (h : DrawA P E l.toArray lh (σ.kills ks) [] (fun τ => WL P E l.toArray Q lt τ)) : W P E (.region id l.toArray true) Q σ := by
  subst hlh
  subst hlt
  intro a w hS
  obtain ⟨xs, ys, k1, k2, k3, k4, k5⟩ := drawA_out _ _ _ _ h
  simp only [drawC, Bool.and_eq_true, List.all_eq_true] at hC
  obtain ⟨⟨c1, c2⟩, c3⟩ := hC
  have hnl : n ≤ l.length := by
    have hB' := hB
    simp only [drawB, Bool.and_eq_true] at hB'
    have := Nat.le_of_ble_eq_true hB'.1.1.1
    simpa using this
  have hll : (l.take n).length = n := by simp; omega
  have hdep : ∀ (i : Nat) (o : Oper), (l.take n)[i]? = some o → ∀ j, memB j (depsOf o) = true → j < i := by
    intro i o ho j hj
    have := c3 (o, i) (by rw [List.mem_zipIdx_iff_getElem?]; exact ho)
    exact blt_lt (this j (memB_mem _ _ hj))
  obtain ⟨β, F, hS⟩ := hS
  obtain ⟨β', hS', hnone⟩ := hS.kills ks (fun k hk => by
    have h1 := List.all_eq_true.1 hks k hk
    have h2 := Nat.le_of_ble_eq_true h1
    exact Nat.le_trans hS.nbl h2)
  refine wp_region_any hm ?_
  have hcnt : cnt (fun j => !(Array.replicate l.toArray.size false).getD j true) n = n := by
    have : ∀ m, m ≤ l.length → cnt (fun j => !(Array.replicate l.toArray.size false).getD j true) m = m := by
      intro m
      induction m with
      | zero => intro _; rfl
      | succ m ih =>
        intro hm
        simp only [cnt, ih (by omega)]
        simp [show m < l.length by omega]
    exact this n hnl
  have hxs : ∀ (i : Nat) (o : Oper), (l.take n)[i]? = some o → xs[i]? = some (xs.getD i (.c .un)) := by
    intro i o ho
    have hlt : i < (l.take n).length := (List.getElem?_eq_some_iff.1 ho).1
    have : i < xs.length := by omega
    simp [List.getD_eq_getElem?_getD, List.getElem?_eq_getElem this]
  have hys : ∀ (i : Nat) (o : Oper), (l.take n)[i]? = some o → ys[i]? = some (ys.getD i none) := by
    intro i o ho
    have hlt : i < (l.take n).length := (List.getElem?_eq_some_iff.1 ho).1
    have : i < ys.length := by omega
    simp [List.getD_eq_getElem?_getD, List.getElem?_eq_getElem this]
  have hget : ∀ (i : Nat) (o : Oper), i < n → l.toArray[i]? = some o → (l.take n)[i]? = some o := fun i o hi ho => by
    rw [List.getElem?_take, if_pos hi]; simpa using ho
  have hsp : ∀ s i, fnd (l.take n) s 0 = some i → i < n ∧ (l.toArray[i]?).bind (·.dst) = some s := fun s i hi => by
    obtain ⟨_, h5⟩ := fnd_spec _ _ _ _ hi
    rw [Nat.sub_zero] at h5
    obtain ⟨o, ho, hod⟩ := Option.bind_eq_some_iff.1 h5
    rw [List.getElem?_take] at ho
    split at ho
    · rename_i hlt
      exact ⟨hlt, by simp [ho, hod]⟩
    · cases ho
  have key := draw_anyA (P := P) (E := E) (ops := l.toArray) (Q := Q) (σ := σ.kills ks) (l := l.take n) (lt := l.drop n) (n := n) (T := fun j => xs.getD j (.c .un)) (Y := fun j => ys.getD j none) (by simp) (fun j => by simp [List.getElem?_drop]) hB
    hsp
    (fun d o i hi ho hd => dstOk_lt (List.all_eq_true.1 hE o (List.mem_of_getElem? (hget i o hi ho))) d hd)
    (fun i o hi ho hY => by
      have ho := hget i o hi ho
      refine k3 i o _ ho (hxs i o ho) (by rw [hys i o ho]; simp only [hY]) _ ⟨by rw [pre_hp]; rfl, fun x hx => ?_, fun i' b hg d hd => ?_⟩
      · have hlk := c2 o (List.mem_of_getElem? ho)
        simp only [looksB, Bool.and_eq_true, List.all_eq_true] at hlk
        cases x with
        | tmp t =>
          have := hlk.1 (.tmp t) hx
          show str _ = str _
          simp only [ev]
          rw [pre_dep c1 k1 (hdep i o ho) this]
        | const v => rfl
        | global g => rfl
        | func f => rfl
      · have hlk := c2 o (List.mem_of_getElem? ho)
        simp only [looksB, Bool.and_eq_true, List.all_eq_true] at hlk
        have := hlk.2
        rw [hg] at this
        dsimp only at this
        rw [hd] at this
        exact pre_dep c1 k1 (hdep i o ho) this)
    (fun i o cs hi ho hY => by
      have ho := hget i o hi ho
      exact k4 i o _ cs ho (hxs i o ho) (by rw [hys i o ho]; exact congrArg some hY))
    (fun a w hS => k5 a w (by
      obtain ⟨β, F, hS⟩ := hS
      refine ⟨β, F, hS.weakenH (fun s => .inl ?_) (fun k => .inl ?_)⟩
      · rw [seths_tm, pre_tm _ _ _ _ c1 k1]
        simp only [stA, stD]
        cases fnd (l.take n) s 0 <;> simp
      · rw [pdf_hp _ _ _ _ _ c1 k2 (fun i o cs h1 h2 => by
          obtain ⟨t, d, _, _, q3, _⟩ := k4 i o _ cs h1 (hxs i o h1) h2
          exact ⟨d, q3⟩)]
        simp only [stA, hpA, St.seths]
        rw [pre_hp]))
    n (Array.replicate l.toArray.size false) a { w with drawn := w.drawn + 1 } hcnt
    ⟨by simp, fun j oj _ hl => (by rw [getD_replicate_false] at hl; cases hl), fun t _ ht => getD_in (by simpa using ht) (getD_replicate_false _ _)⟩
    ⟨β', F, (hS'.drawn _).weakenH (fun s => ?_) (fun k => ?_), fun i d cs h6 h7 _ => ?_⟩
  · rwa [show n + (l.toArray.size - n) = l.toArray.size by simp; omega] at key
  · simp only [stA, stD]
    split
    · rename_i i hi
      rw [getD_replicate_false]
      exact .inr rfl
    · exact .inl rfl
  · simp only [stA, hpA]
    split
    · rename_i i hi
      rw [getD_replicate_false]
      cases ys.getD i none with
      | none => exact .inl rfl
      | some cs => exact .inr rfl
    · exact .inl rfl
  · obtain ⟨h8, h9⟩ := hsp d i h6
    obtain ⟨o, ho, hod⟩ := Option.bind_eq_some_iff.1 h9
    have ho' := hget i o h8 ho
    obtain ⟨t, d', q1, q2, q3, _⟩ := k4 i o _ cs ho' (hxs i o ho') (by rw [hys i o ho']; exact congrArg some h7)
    have hkin := List.all_eq_true.1 hA o (List.mem_of_getElem? ho')
    simp only [isAl, q1, Bool.not_true, Bool.false_or] at hkin
    rw [hod] at hkin
    exact hnone _ (.inr (memB_mem _ _ hkin))
end
end Go.Sx

/-
  The walk over abstract states: pure operations, guards, new blocks, stores. No condition.
-/
import Derived.Test.YtppmfjopokkhmaaSxF
namespace Go.Sx
open Go
set_option linter.unusedVariables false

/-! Forgetting a block. -/

def Cell.kill1 (j : Nat) : Cell → Cell
  | .own i sz off len => match decide (i = j) with | true => .un | false => .own i sz off len
  | .ptr i off => match decide (i = j) with | true => .un | false => .ptr i off
  | .pel i sz e k => match decide (i = j) with | true => .un | false => .pel i sz e k
  | .fn _ (_ :: _) _ => .un
  | .fn _ _ (_ :: _) => .un
  | x => x
def Cell.kill (j : Nat) : Cell → Cell
  | .fn f first cap => .fn f (first.map (Cell.kill1 j)) (cap.map (Cell.kill1 j))
  | x => x.kill1 j
def Av.kill1 (j : Nat) : Av → Av
  | .c x => .c (x.kill j)
  | .agg xs => .agg (xs.map (Cell.kill j))
  | .ai k l => .ai k l
  | _ => .c .un
def Av.kill (j : Nat) : Av → Av
  | .tup xs => .tup (xs.map (Av.kill1 j))
  | .cnd g x => match x with | .tup _ => .c .un | .cnd _ _ => .c .un | x => .cnd g (x.kill1 j)
  | x => x.kill1 j
def Blk.kill (j : Nat) : Blk → Blk
  | .cells cs => .cells (cs.map (Cell.kill j))
  | b => b
def St.kill (σ : St) (j : Nat) : St := ⟨fun i => (σ.tm i).kill j, fun i => match decide (i = j) with | true => .gone | false => (σ.hp i).kill j⟩

theorem CellR.kill1 {β β' : Nat → Option Nat} {F : Nat → Prop} {w : World} {j : Nat} (hβ : ∀ i, i ≠ j → β' i = β i) {x : Cell} {v : Value} (h : CellR β F w x v) : CellR β' F w (x.kill1 j) v := by
  cases h with
  | lf h => exact .lf h
  | un h => exact .un h
  | own i sz off len a c hc hm h =>
    by_cases hi : i = j
    · simp only [Cell.kill1, hi, decide_true]; exact .un rfl
    · simp only [Cell.kill1, hi, decide_false]
      exact .own _ _ _ _ _ _ hc hm (by rw [hβ i hi]; exact h)
  | ptr i off g h =>
    by_cases hi : i = j
    · simp only [Cell.kill1, hi, decide_true]; exact .un rfl
    · simp only [Cell.kill1, hi, decide_false]; exact .ptr _ _ _ (by rw [hβ i hi]; exact h)
  | pel i sz e k g h =>
    by_cases hi : i = j
    · simp only [Cell.kill1, hi, decide_true]; exact .un rfl
    · simp only [Cell.kill1, hi, decide_false]; exact .pel _ _ _ _ _ (by rw [hβ i hi]; exact h)
  | fn f first cap fv cv h1 h2 h3 h4 =>
    cases first with
    | cons => exact .un rfl
    | nil =>
      cases cap with
      | cons => exact .un rfl
      | nil => exact .fn _ _ _ _ _ h1 h2 (fun i x v hx => by simp at hx) (fun i x v hx => by simp at hx)

theorem CellR.kill {β β' : Nat → Option Nat} {F : Nat → Prop} {w : World} {j : Nat} (hβ : ∀ i, i ≠ j → β' i = β i) {x : Cell} {v : Value} (h : CellR β F w x v) : CellR β' F w (x.kill j) v := by
  have h' := h
  cases h with
  | fn f first cap fv cv h1 h2 h3 h4 =>
    refine .fn _ _ _ _ _ (by simpa using h1) (by simpa using h2) (fun i x v hx hv => ?_) (fun i x v hx hv => ?_)
    · rw [List.getElem?_map, Option.map_eq_some_iff] at hx
      obtain ⟨y, hy, rfl⟩ := hx
      exact (h3 i y v hy hv).kill1 hβ
    · rw [List.getElem?_map, Option.map_eq_some_iff] at hx
      obtain ⟨y, hy, rfl⟩ := hx
      exact (h4 i y v hy hv).kill1 hβ
  | _ => exact h'.kill1 hβ

theorem AvR.kill1 {β β' : Nat → Option Nat} {F : Nat → Prop} {w : World} {j : Nat} (hβ : ∀ i, i ≠ j → β' i = β i) {x : Av} {v : Value} (h : AvR β F w x v) : AvR β' F w (x.kill1 j) v := by
  cases h with
  | c h => exact .c (h.kill hβ)
  | any => exact .any _
  | agg xs cs h1 h =>
    refine .agg _ _ (by simpa using h1) fun i x v hx hv => ?_
    rw [List.getElem?_map, Option.map_eq_some_iff] at hx
    obtain ⟨y, hy, rfl⟩ := hx
    exact (h i y v hy hv).kill hβ
  | ai k l => exact .ai k l
  | tup => exact .any _
  | cnd => exact .any _

theorem AvR.kill {β β' : Nat → Option Nat} {F : Nat → Prop} {w : World} {j : Nat} (hβ : ∀ i, i ≠ j → β' i = β i) {x : Av} {v : Value} (h : AvR β F w x v) : AvR β' F w (x.kill j) v := by
  have h' := h
  cases h with
  | tup xs cs h1 h =>
    refine .tup _ _ (by simpa using h1) fun i x v hx hv => ?_
    rw [List.getElem?_map, Option.map_eq_some_iff] at hx
    obtain ⟨y, hy, rfl⟩ := hx
    exact (h i y v hy hv).kill1 hβ
  | cnd g x v h h0 =>
    cases x with
    | tup => exact .any _
    | cnd => exact .any _
    | c => exact .cnd _ _ _ (fun hg => (h hg).kill1 hβ) h0
    | agg => exact .cnd _ _ _ (fun hg => (h hg).kill1 hβ) h0
    | ai => exact .cnd _ _ _ (fun hg => (h hg).kill1 hβ) h0
  | _ => exact h'.kill1 hβ

theorem BlkR.kill {β β' : Nat → Option Nat} {F : Nat → Prop} {w : World} {j i : Nat} (hβ : ∀ i, i ≠ j → β' i = β i) (hi : i ≠ j) {b : Blk} (h : BlkR β F w i b) : BlkR β' F w i (b.kill j) := by
  cases b with
  | gone => trivial
  | cells cs =>
    obtain ⟨g, cur, hg, hr, hsz, hc⟩ := h
    refine ⟨g, cur, (hβ i hi).trans hg, hr, by simpa using hsz, fun k x v hx hv => ?_⟩
    rw [List.getElem?_map, Option.map_eq_some_iff] at hx
    obtain ⟨y, hy, rfl⟩ := hx
    exact (hc k y v hy hv).kill hβ
  | row d =>
    cases d with
    | ints k l => simpa [BlkR, Blk.kill, hβ i hi] using h
    | recs sz l => simpa [BlkR, Blk.kill, hβ i hi] using h
    | v => exact h
    | obj => exact h

theorem Blk.kill_ne {b : Blk} {j : Nat} (h : b.kill j ≠ .gone) : b ≠ .gone := by intro h'; subst h'; exact h rfl

theorem SRb.kill {E : Env} {β : Nat → Option Nat} {F : Nat → Prop} {σ : St} {a : Act} {w : World} (h : SRb E β F σ a w) (j : Nat) (hjb : E.nb ≤ j) :
    SRb E (fun i => if i = j then none else β i) F (σ.kill j) a w := by
  have hβ : ∀ i, i ≠ j → (if i = j then none else β i) = β i := fun i hi => if_neg hi
  have hne : ∀ i, (σ.kill j).hp i ≠ .gone → i ≠ j ∧ σ.hp i ≠ .gone := by
    intro i hi
    by_cases hij : i = j
    · simp [St.kill, hij] at hi
    · refine ⟨hij, ?_⟩
      simp only [St.kill, hij, decide_false] at hi
      exact Blk.kill_ne hi
  refine ⟨fun i => (h.tm i).kill hβ, h.sz, h.df, fun i => ?_, fun i k g hi hk e1 e2 => ?_, fun i g hi e => ?_, fun i g e => ?_, h.fr, h.keep, fun i hi => (hβ i (by omega)).trans (h.bb i hi), h.nbl⟩
  · by_cases hij : i = j
    · simp only [St.kill, hij, decide_true]; trivial
    · simp only [St.kill, hij, decide_false]
      exact (h.hp i).kill hβ hij
  · obtain ⟨a1, a2⟩ := hne i hi
    obtain ⟨b1, b2⟩ := hne k hk
    rw [if_neg a1] at e1
    rw [if_neg b1] at e2
    exact h.inj i k g a2 b2 e1 e2
  · obtain ⟨a1, a2⟩ := hne i hi
    rw [if_neg a1] at e
    exact h.own i g a2 e
  · by_cases hij : i = j
    · simp [hij] at e
    · rw [if_neg hij] at e; exact h.lt i g e

theorem SRb.drop {E : Env} {β : Nat → Option Nat} {F : Nat → Prop} {σ : St} {a : Act} {w : World} (h : SRb E β F σ a w) (j : Nat) : SRb E β F (σ.kill j) a w := by
  have hβ : ∀ i, i ≠ j → β i = β i := fun i hi => rfl
  have hne : ∀ i, (σ.kill j).hp i ≠ .gone → i ≠ j ∧ σ.hp i ≠ .gone := by
    intro i hi
    by_cases hij : i = j
    · simp [St.kill, hij] at hi
    · refine ⟨hij, ?_⟩
      simp only [St.kill, hij, decide_false] at hi
      exact Blk.kill_ne hi
  refine ⟨fun i => (h.tm i).kill hβ, h.sz, h.df, fun i => ?_, fun i k g hi hk e1 e2 => h.inj i k g (hne i hi).2 (hne k hk).2 e1 e2, fun i g hi e => h.own i g (hne i hi).2 e, h.lt, h.fr, h.keep, h.bb, h.nbl⟩
  by_cases hij : i = j
  · simp only [St.kill, hij, decide_true]; trivial
  · simp only [St.kill, hij, decide_false]
    exact (h.hp i).kill hβ hij

/-! New blocks. -/

theorem BlkR.mono {β β' : Nat → Option Nat} {F : Nat → Prop} {w w' : World} {i : Nat} (hβ : ∀ j g, β j = some g → β' j = some g) (hi : β' i = β i) (hF : ∀ b, F b → w'.heap[b]? = w.heap[b]?)
    (hC : ∀ g n, CapOk w g n → CapOk w' g n) (hg : ∀ g, β i = some g → w'.heap[g]? = w.heap[g]?) {b : Blk} (h : BlkR β F w i b) : BlkR β' F w' i b := by
  have hR : ∀ g cur, β i = some g → Row w g cur → Row w' g cur := by
    rintro g cur hg' ⟨t, fr, h1, h2⟩
    exact ⟨t, fr, (hg g hg').trans h1, h2⟩
  cases b with
  | gone => trivial
  | cells cs =>
    obtain ⟨g, cur, hg', hr, hsz, hc⟩ := h
    exact ⟨g, cur, hi.trans hg', hR g cur hg' hr, hsz, fun k x v hx hv => (hc k x v hx hv).mono hβ (fun b hb => ⟨hb, hF b hb⟩) hC⟩
  | row d =>
    cases d with
    | ints k l =>
      rcases h with ⟨h1, h2⟩ | ⟨g, cur, hg', hr, hc⟩
      · exact .inl ⟨h1, fun g hg => hC _ _ (h2 g (hi ▸ hg))⟩
      · exact .inr ⟨g, cur, hi.trans hg', hR g cur hg' hr, hc⟩
    | recs sz l =>
      refine ⟨h.1, ?_⟩
      rcases h.2 with ⟨h1, h2⟩ | ⟨g, cur, hg', hr, hc⟩
      · exact .inl ⟨h1, fun g hg => hC _ _ (h2 g (hi ▸ hg))⟩
      · refine .inr ⟨g, cur, hi.trans hg', hR g cur hg' hr, fun i r k x hx hk => ?_⟩
        obtain ⟨v, hv, hl⟩ := hc i r k x hx hk
        exact ⟨v, hv, hl.mono fun b hb => ⟨hb, hF b hb⟩⟩
    | v => exact h
    | obj => exact h

theorem CapOk.lt {w : World} {g n : Nat} (h : CapOk w g n) : g < w.heap.size := by
  obtain ⟨cur, ⟨t, fr, h, _⟩, _⟩ := h
  rcases Nat.lt_or_ge g w.heap.size with h' | h'
  · exact h'
  · simp [Array.getElem?_eq_none h'] at h

theorem CapOk.same {w w' : World} {g n : Nat} (h : CapOk w g n) (hg : w'.heap[g]? = w.heap[g]?) : CapOk w' g n := by
  obtain ⟨cur, ⟨t, fr, h1, h2⟩, h3⟩ := h
  exact ⟨cur, ⟨t, fr, hg.trans h1, h2⟩, h3⟩

/-- A world that has grown by one block. -/
theorem SRb.alloc {E : Env} {β : Nat → Option Nat} {F : Nat → Prop} {σ : St} {a : Act} {w : World} (h : SRb E β F σ a w) {j : Nat} (hj : β j = none) (hjb : E.nb ≤ j) (hgone : σ.hp j = .gone) (o : Obj) (blk : Blk)
    (hblk : BlkR (fun i => if i = j then some w.heap.size else β i) F (w.alloc o) j blk) :
    SRb E (fun i => if i = j then some w.heap.size else β i) F (σ.seth j blk) a (w.alloc o) ∧ ∀ {x : Av} {v : Value}, AvR β F w x v → AvR (fun i => if i = j then some w.heap.size else β i) F (w.alloc o) x v := by
  have hβ : ∀ i g, β i = some g → (if i = j then some w.heap.size else β i) = some g := by
    intro i g hi
    rw [if_neg (by intro e; subst e; rw [hj] at hi; cases hi)]; exact hi
  have hs : ∀ k, k < w.heap.size → (w.alloc o).heap[k]? = w.heap[k]? := fun k hk => RowKit.Below.heap_alloc w o k hk
  have hF : ∀ b, F b → (w.alloc o).heap[b]? = w.heap[b]? := fun b hb => hs b (h.fr b hb).1
  have hC : ∀ g n, CapOk w g n → CapOk (w.alloc o) g n := fun g n hc => hc.same (hs g hc.lt)
  have hA : ∀ {x : Av} {v : Value}, AvR β F w x v → AvR (fun i => if i = j then some w.heap.size else β i) F (w.alloc o) x v := fun hx => hx.mono hβ (fun b hb => ⟨hb, hF b hb⟩) hC
  refine ⟨⟨fun i => hA (h.tm i), h.sz, h.df, fun i => ?_, fun i k g hi hk e1 e2 => ?_, fun i g hi e => ?_, fun i g e => ?_, fun b hb => ?_, ?_, fun i hi => by rw [if_neg (by omega)]; exact h.bb i hi, h.nbl⟩, hA⟩
  · by_cases hij : i = j
    · subst hij; simpa [St.seth] using hblk
    · simp only [St.seth, hij, if_false]
      exact (h.hp i).mono hβ (by simp [hij]) hF hC (fun g hg => hs g (h.lt i g hg))
  · by_cases hij : i = j
    · by_cases hkj : k = j
      · rw [hij, hkj]
      · simp only [hij, if_true, Option.some.injEq] at e1
        simp only [hkj, if_false] at e2
        have := h.lt k g e2
        omega
    · by_cases hkj : k = j
      · simp only [hij, if_false] at e1
        simp only [hkj, if_true, Option.some.injEq] at e2
        have := h.lt i g e1
        omega
      · simp only [hij, if_false] at e1
        simp only [hkj, if_false] at e2
        simp only [St.seth, hij, hkj, if_false] at hi hk
        exact h.inj i k g hi hk e1 e2
  · by_cases hij : i = j
    · simp only [hij, if_true, Option.some.injEq] at e
      subst e
      refine ⟨by simp, .inl h.keep.size, fun hf => ?_⟩
      have := (h.fr _ hf).1
      omega
    · simp only [hij, if_false] at e
      simp only [St.seth, hij, if_false] at hi
      obtain ⟨a1, a2, a3⟩ := h.own i g hi e
      exact ⟨by simp; omega, a2, a3⟩
  · by_cases hij : i = j
    · simp only [hij, if_true, Option.some.injEq] at e
      subst e; simp
    · simp only [hij, if_false] at e
      have := h.lt i g e
      simp; omega
  · obtain ⟨a1, a2⟩ := h.fr b hb
    exact ⟨by simp; omega, a2⟩
  · exact ⟨h.keep.os, h.keep.tape, h.keep.output, by have := h.keep.size; simp; omega, fun k hk hm => (hs k (Nat.lt_of_lt_of_le hk h.keep.size)).trans (h.keep.block k hk hm), fun g n hc => hC g n (h.keep.cap g n hc)⟩

theorem SRb.put {E : Env} {β : Nat → Option Nat} {F : Nat → Prop} {σ : St} {a : Act} {w : World} (h : SRb E β F σ a w) {d : Option Nat} {x : Av} {v : Value} (hx : AvR β F w x v) (hd : ∀ i, d = some i → i < E.n) :
    SRb E β F (σ.put d x) (a.put d v) w := by
  cases d with
  | none => exact h
  | some d =>
    refine ⟨fun i => ?_, by simpa [Act.put] using h.sz, h.df, h.hp, h.inj, h.own, h.lt, h.fr, h.keep, h.bb, h.nbl⟩
    have hlt : d < a.tmps.size := by rw [h.sz]; exact hd d rfl
    by_cases hi : i = d
    · subst hi
      simpa [St.put, St.set, Act.put, hlt] using hx
    · have := h.tm i
      have hne : ¬ d = i := fun e => hi e.symm
      simpa [St.put, St.set, hi, Act.put, Array.getElem?_setIfInBounds, hne] using this

/-- A block written in place. -/
theorem SRb.upd {E : Env} {β : Nat → Option Nat} {F : Nat → Prop} {σ : St} {a : Act} {w w' : World} (h : SRb E β F σ a w) {j g : Nat} {cur cur' : Array Value} {blk : Blk} (hj : σ.hp j ≠ .gone) (hg : β j = some g) (hrow : Row w g cur)
    (hos : w'.os = w.os) (htp : w'.tape = w.tape) (hou : w'.output = w.output) (hsz : w'.heap.size = w.heap.size) (hk : ∀ k, k ≠ g → w'.heap[k]? = w.heap[k]?) (hrow' : Row w' g cur') (hs : cur'.size = cur.size)
    (hblk : BlkR β F w' j blk) : SRb E β F (σ.seth j blk) a w' ∧ ∀ {x : Av} {v : Value}, AvR β F w x v → AvR β F w' x v := by
  obtain ⟨o1, o2, o3⟩ := h.own j g hj hg
  have hF : ∀ b, F b → w'.heap[b]? = w.heap[b]? := fun b hb => hk b (fun e => o3 (e ▸ hb))
  have hC : ∀ g n, CapOk w g n → CapOk w' g n := by
    intro g' n hc
    by_cases e : g' = g
    · subst e
      obtain ⟨c2, ⟨t, fr, h1, h2⟩, h3⟩ := hc
      obtain ⟨t', fr', h1', _⟩ := hrow
      rw [h1] at h1'
      simp only [Option.some.injEq, Obj.cells.injEq] at h1'
      obtain ⟨rfl, _, _⟩ := h1'
      exact ⟨cur', hrow', by omega⟩
    · exact hc.same (hk g' e)
  have hA : ∀ {x : Av} {v : Value}, AvR β F w x v → AvR β F w' x v := fun hx => hx.mono (fun _ _ h => h) (fun b hb => ⟨hb, hF b hb⟩) hC
  have hne : ∀ i, (σ.seth j blk).hp i ≠ .gone → σ.hp i ≠ .gone := by
    intro i hi
    by_cases e : i = j
    · rw [e]; exact hj
    · simpa [St.seth, e] using hi
  refine ⟨⟨fun i => hA (h.tm i), h.sz, h.df, fun i => ?_, fun i k g hi hk' e1 e2 => h.inj i k g (hne i hi) (hne k hk') e1 e2, fun i g hi e => ?_, fun i g e => by rw [hsz]; exact h.lt i g e, fun b hb => by rw [hsz]; exact h.fr b hb, ?_, h.bb, h.nbl⟩, hA⟩
  · by_cases hij : i = j
    · subst hij; simpa [St.seth] using hblk
    · simp only [St.seth, hij, if_false]
      by_cases hgone : σ.hp i = .gone
      · rw [hgone]; trivial
      · exact (h.hp i).mono (fun _ _ h => h) rfl hF hC (fun g' hg' => hk g' (fun e => hij (h.inj i j g hgone hj (e ▸ hg') hg)))
  · rw [hsz]; exact h.own i g (hne i hi) e
  · refine ⟨hos.trans h.keep.os, htp.trans h.keep.tape, hou.trans h.keep.output, by rw [hsz]; exact h.keep.size, fun k hk1 hm => ?_, fun g n hc => hC g n (h.keep.cap g n hc)⟩
    refine (hk k fun e => ?_).trans (h.keep.block k hk1 hm)
    subst e
    rcases o2 with o2 | o2
    · omega
    · exact hm o2

end Go.Sx

/-
  Contracts: how one is proved, and how one is used at a call. No condition.
-/
import Derived.Test.YtppmfjopokkhmaaSxI
namespace Go.Sx
open Go
set_option linter.unusedVariables false

/-! Other numbers for the blocks. -/

def Cell.ren1 (ρ : Nat → Nat) : Cell → Cell
  | .own i sz off len => .own (ρ i) sz off len
  | .ptr i off => .ptr (ρ i) off
  | .pel i sz e k => .pel (ρ i) sz e k
  | x => x
def Cell.ren (ρ : Nat → Nat) : Cell → Cell
  | .fn f first cap => .fn f (first.map (Cell.ren1 ρ)) (cap.map (Cell.ren1 ρ))
  | x => x.ren1 ρ
def Av.ren1 (ρ : Nat → Nat) : Av → Av
  | .c x => .c (x.ren ρ)
  | .agg xs => .agg (xs.map (Cell.ren ρ))
  | x => x
def Av.ren (ρ : Nat → Nat) : Av → Av
  | .tup xs => .tup (xs.map (Av.ren1 ρ))
  | x => x.ren1 ρ
def Blk.ren (ρ : Nat → Nat) : Blk → Blk
  | .cells cs => .cells (cs.map (Cell.ren ρ))
  | b => b
/-- No function value inside a function value; the blocks' numbers are below n. -/
def Cell.flat (n : Nat) : Cell → Bool
  | .fn _ _ _ => false
  | .own i _ _ _ => Nat.blt i n
  | .ptr i _ => Nat.blt i n
  | .pel i _ _ _ => Nat.blt i n
  | _ => true
def Cell.ok (n : Nat) : Cell → Bool
  | .fn _ first cap => first.all (Cell.flat n) && cap.all (Cell.flat n)
  | x => x.flat n
def Av.ok1 (n : Nat) : Av → Bool
  | .c x => x.ok n
  | .agg xs => xs.all (Cell.ok n)
  | .ai _ _ => true
  | _ => false
def Av.ok (n : Nat) : Av → Bool
  | .tup xs => xs.all (Av.ok1 n)
  | x => x.ok1 n
def Blk.ok (n : Nat) : Blk → Bool
  | .cells cs => cs.all (Cell.ok n)
  | _ => true
theorem blt_lt {i n : Nat} (h : Nat.blt i n = true) : i < n := by rwa [Nat.blt_eq] at h

section
variable {β β' : Nat → Option Nat} {F : Nat → Prop} {w : World} {ρ : Nat → Nat} {n : Nat}

theorem CellR.ren1 (hβ : ∀ i, i < n → β (ρ i) = β' i) {x : Cell} {v : Value} (h : CellR β' F w x v) (hx : x.flat n = true) : CellR β F w (x.ren1 ρ) v := by
  cases h with
  | lf h => exact .lf h
  | un h => exact .un h
  | own i sz off len a c hc hm h => exact .own _ _ _ _ _ _ hc hm (by rw [hβ _ (blt_lt hx)]; exact h)
  | ptr i off g h => exact .ptr _ _ _ (by rw [hβ _ (blt_lt hx)]; exact h)
  | pel i sz e k g h => exact .pel _ _ _ _ _ (by rw [hβ _ (blt_lt hx)]; exact h)
  | fn => cases hx

theorem CellR.ren (hβ : ∀ i, i < n → β (ρ i) = β' i) {x : Cell} {v : Value} (h : CellR β' F w x v) (hx : x.ok n = true) : CellR β F w (x.ren ρ) v := by
  have h' := h
  cases h with
  | fn f first cap fv cv h1 h2 h3 h4 =>
    simp only [Cell.ok, Bool.and_eq_true, List.all_eq_true] at hx
    refine .fn _ _ _ _ _ (by simpa using h1) (by simpa using h2) (fun i x v hx' hv => ?_) (fun i x v hx' hv => ?_)
    · rw [List.getElem?_map, Option.map_eq_some_iff] at hx'
      obtain ⟨y, hy, rfl⟩ := hx'
      exact (h3 i y v hy hv).ren1 hβ (hx.1 y (List.mem_of_getElem? hy))
    · rw [List.getElem?_map, Option.map_eq_some_iff] at hx'
      obtain ⟨y, hy, rfl⟩ := hx'
      exact (h4 i y v hy hv).ren1 hβ (hx.2 y (List.mem_of_getElem? hy))
  | lf => exact h'.ren1 hβ hx
  | un => exact h'.ren1 hβ hx
  | own => exact h'.ren1 hβ hx
  | ptr => exact h'.ren1 hβ hx
  | pel => exact h'.ren1 hβ hx

theorem AvR.ren1 (hβ : ∀ i, i < n → β (ρ i) = β' i) {x : Av} {v : Value} (h : AvR β' F w x v) (hx : x.ok1 n = true) : AvR β F w (x.ren1 ρ) v := by
  cases h with
  | c h => exact .c (h.ren hβ hx)
  | any => exact .any _
  | agg xs cs h1 h =>
    simp only [Av.ok1, List.all_eq_true] at hx
    refine .agg _ _ (by simpa using h1) fun i x v hx' hv => ?_
    rw [List.getElem?_map, Option.map_eq_some_iff] at hx'
    obtain ⟨y, hy, rfl⟩ := hx'
    exact (h i y v hy hv).ren hβ (hx y (List.mem_of_getElem? hy))
  | ai k l => exact .ai k l
  | tup => cases hx
  | cnd => cases hx

theorem AvR.ren (hβ : ∀ i, i < n → β (ρ i) = β' i) {x : Av} {v : Value} (h : AvR β' F w x v) (hx : x.ok n = true) : AvR β F w (x.ren ρ) v := by
  have h' := h
  cases h with
  | tup xs cs h1 h =>
    simp only [Av.ok, List.all_eq_true] at hx
    refine .tup _ _ (by simpa using h1) fun i x v hx' hv => ?_
    rw [List.getElem?_map, Option.map_eq_some_iff] at hx'
    obtain ⟨y, hy, rfl⟩ := hx'
    exact (h i y v hy hv).ren1 hβ (hx y (List.mem_of_getElem? hy))
  | c => exact h'.ren1 hβ hx
  | any => exact h'.ren1 hβ hx
  | agg => exact h'.ren1 hβ hx
  | ai => exact h'.ren1 hβ hx
  | cnd => cases hx

theorem BlkR.ren (hβ : ∀ i, i < n → β (ρ i) = β' i) {i : Nat} {b : Blk} (h : BlkR β' F w i b) (hi : i < n) (hx : b.ok n = true) : BlkR β F w (ρ i) (b.ren ρ) := by
  cases b with
  | gone => trivial
  | cells cs =>
    obtain ⟨g, cur, hg, hr, hsz, hc⟩ := h
    simp only [Blk.ok, List.all_eq_true] at hx
    refine ⟨g, cur, (hβ i hi).trans hg, hr, by simpa using hsz, fun k x v hx' hv => ?_⟩
    rw [List.getElem?_map, Option.map_eq_some_iff] at hx'
    obtain ⟨y, hy, rfl⟩ := hx'
    exact (hc k y v hy hv).ren hβ (hx y (List.mem_of_getElem? hy))
  | row d =>
    cases d with
    | ints k l => simpa [BlkR, Blk.ren, hβ i hi] using h
    | recs sz l => simpa [BlkR, Blk.ren, hβ i hi] using h
    | v => exact h
    | obj => exact h

/-! And back. -/

theorem CellR.unren1 (hβ : ∀ i, i < n → β (ρ i) = β' i) {x : Cell} {v : Value} (h : CellR β F w (x.ren1 ρ) v) (hx : x.flat n = true) : CellR β' F w x v := by
  cases x with
  | lf => exact (by cases h with | lf h => exact .lf h)
  | un => exact (by cases h with | un h => exact .un h)
  | own i sz off len => cases h with | own _ _ _ _ a c hc hm h => exact .own _ _ _ _ _ _ hc hm (by rw [← hβ _ (blt_lt hx)]; exact h)
  | ptr i off => cases h with | ptr _ _ g h => exact .ptr _ _ _ (by rw [← hβ _ (blt_lt hx)]; exact h)
  | pel i sz e k => cases h with | pel _ _ _ _ g h => exact .pel _ _ _ _ _ (by rw [← hβ _ (blt_lt hx)]; exact h)
  | fn => cases hx

theorem CellR.unren (hβ : ∀ i, i < n → β (ρ i) = β' i) {x : Cell} {v : Value} (h : CellR β F w (x.ren ρ) v) (hx : x.ok n = true) : CellR β' F w x v := by
  cases x with
  | fn f first cap =>
    simp only [Cell.ok, Bool.and_eq_true, List.all_eq_true] at hx
    cases h with | fn _ _ _ fv cv h1 h2 h3 h4 =>
    refine .fn _ _ _ _ _ (by simpa using h1) (by simpa using h2) (fun i x v hx' hv => ?_) (fun i x v hx' hv => ?_)
    · exact (h3 i _ v (by rw [List.getElem?_map, hx']; rfl) hv).unren1 hβ (hx.1 x (List.mem_of_getElem? hx'))
    · exact (h4 i _ v (by rw [List.getElem?_map, hx']; rfl) hv).unren1 hβ (hx.2 x (List.mem_of_getElem? hx'))
  | lf => exact h.unren1 hβ hx
  | un => exact h.unren1 hβ hx
  | own => exact h.unren1 hβ hx
  | ptr => exact h.unren1 hβ hx
  | pel => exact h.unren1 hβ hx

theorem AvR.unren1 (hβ : ∀ i, i < n → β (ρ i) = β' i) {x : Av} {v : Value} (h : AvR β F w (x.ren1 ρ) v) (hx : x.ok1 n = true) : AvR β' F w x v := by
  cases x with
  | c x =>
    by_cases hu : x = .un
    · subst hu; exact .any _
    · simp only [Av.ren1] at h
      generalize hy : x.ren ρ = y at h
      cases h with
      | c h => subst hy; exact .c (h.unren hβ hx)
      | any => exfalso; cases x <;> simp [Cell.ren, Cell.ren1] at hy; exact hu rfl
  | agg xs =>
    simp only [Av.ok1, List.all_eq_true] at hx
    cases h with | agg _ cs h1 h =>
    refine .agg _ _ (by simpa using h1) fun i x v hx' hv => ?_
    exact (h i _ v (by rw [List.getElem?_map, hx']; rfl) hv).unren hβ (hx x (List.mem_of_getElem? hx'))
  | ai k l => cases h with | ai => exact .ai k l
  | tup => cases hx
  | cnd => cases hx

theorem AvR.unren (hβ : ∀ i, i < n → β (ρ i) = β' i) {x : Av} {v : Value} (h : AvR β F w (x.ren ρ) v) (hx : x.ok n = true) : AvR β' F w x v := by
  cases x with
  | tup xs =>
    simp only [Av.ok, List.all_eq_true] at hx
    cases h with | tup _ cs h1 h =>
    refine .tup _ _ (by simpa using h1) fun i x v hx' hv => ?_
    exact (h i _ v (by rw [List.getElem?_map, hx']; rfl) hv).unren1 hβ (hx x (List.mem_of_getElem? hx'))
  | c => exact h.unren1 hβ hx
  | agg => exact h.unren1 hβ hx
  | ai => exact h.unren1 hβ hx
  | cnd => cases hx

theorem BlkR.unren (hβ : ∀ i, i < n → β (ρ i) = β' i) {i : Nat} {b : Blk} (h : BlkR β F w (ρ i) (b.ren ρ)) (hi : i < n) (hx : b.ok n = true) : BlkR β' F w i b := by
  cases b with
  | gone => trivial
  | cells cs =>
    obtain ⟨g, cur, hg, hr, hsz, hc⟩ := h
    simp only [Blk.ok, List.all_eq_true] at hx
    refine ⟨g, cur, (hβ i hi).symm.trans hg, hr, by simpa using hsz, fun k x v hx' hv => ?_⟩
    exact (hc k _ v (by rw [List.getElem?_map, hx']; rfl) hv).unren hβ (hx x (List.mem_of_getElem? hx'))
  | row d =>
    cases d with
    | ints k l => simpa [BlkR, Blk.ren, ← hβ i hi] using h
    | recs sz l => simpa [BlkR, Blk.ren, ← hβ i hi] using h
    | v => exact h
    | obj => exact h
end

/-! A contract proved: the state at the call's beginning, and what is asked at its end. -/

def ordL {α : Type} : Nat → List α → List (Nat × α)
  | _, [] => []
  | n, x :: l => (n, x) :: ordL (n + 1) l

theorem look_ordL {α : Type} (d : α) : ∀ (l : List α) (n k : Nat), look d (ordL n l) k = if n ≤ k then (l[k - n]?).getD d else d
  | [], n, k => by simp [ordL, look]
  | x :: l, n, k => by
    simp only [ordL, look]
    split
    · rename_i e
      have : k = n := Nat.eq_of_beq_eq_true e
      subst this
      simp
    · rename_i e
      have hne : k ≠ n := by intro h; subst h; simp at e
      rw [look_ordL d l (n + 1) k]
      by_cases h : n + 1 ≤ k
      · have h' : n ≤ k := by omega
        rw [if_pos h, if_pos h']
        obtain ⟨m, rfl⟩ : ∃ m, k = n + 1 + m := ⟨k - (n + 1), by omega⟩
        rw [show n + 1 + m - (n + 1) = m by omega, show n + 1 + m - n = m + 1 by omega]
        simp
      · rw [if_neg h, if_neg (by omega)]

/-- The number of a block of the contract: the blocks that were lent keep theirs; the news lie at ks. -/
def rho (nb : Nat) (ks : List Nat) (i : Nat) : Nat := match Nat.blt i nb with | true => i | false => ks.getD (i - nb) 0

/-- What a call's end must show: the results' value r, the numbers ks of the new blocks. -/
structure Fin (σ : St) (r : Av) (nb : Nat) (ks : List Nat) (res : Av) (bor' news : List Blk) : Prop where
  fres : r = res.ren (rho nb ks)
  fbor : AllP ((ordL 0 bor').map fun p => σ.hp p.1 = p.2.ren (rho nb ks))
  fnews : AllP ((ordL nb news).map fun p => σ.hp (rho nb ks p.1) = p.2.ren (rho nb ks))
  fok : (res.ok (nb + news.length) && bor'.all (Blk.ok (nb + news.length)) && news.all (Blk.ok (nb + news.length)) && news.all (fun b => match b with | .gone => false | _ => true) && Nat.beq ks.length news.length && ks.all (fun k => Nat.ble 64 k) && decide ks.Nodup) = true

theorem mem_ordL {α : Type} : ∀ (l : List α) (n i : Nat) (x : α), l[i]? = some x → (n + i, x) ∈ ordL n l
  | y :: l, n, 0, x, h => by simp at h; subst h; simp [ordL]
  | y :: l, n, i + 1, x, h => by
    have := mem_ordL l (n + 1) i x (by simpa using h)
    simp only [ordL]
    rw [show n + (i + 1) = n + 1 + i by omega]
    exact List.mem_cons_of_mem _ this

theorem Ct_intro {P : Program} {f : FuncId} {fn : Func} {c : Code} {args : List Av} {bor : List Blk} {res : Av} {bor' news : List Blk} (hf : P.funcs[f]? = some fn) (hb : fn.body = some c)
    (hnm : (fn.name == "runtime.NumGoroutine") = false) (hn : decide (args.length ≤ fn.ntmps) = true) (hnb : Nat.ble bor.length 64 = true) (hlen : Nat.beq bor'.length bor.length = true)
    (h : ∀ E : Env, E.n = fn.ntmps → E.nb = bor.length →
      W P E c (bodyPost P fn fun e w' => ∃ v β' F', e = .returned v ∧ AvR β' F' w' res v ∧ (∀ i b, bor'[i]? = some b → BlkR β' F' w' i b) ∧ (∀ i b, news[i]? = some b → BlkR β' F' w' (bor.length + i) b) ∧
        Out E.w0 E.M E.F0 bor.length news.length E.β0 β' F' w') (.of (ordL 0 args) (ordL 0 bor))) : Ct P f args bor res bor' news := by
  refine ⟨Nat.eq_of_beq_eq_true hlen, ⟨fn, hf, hnm, by rw [hb]; rfl⟩, fun w β F vs hvl hvs hbor hinj hown hnone hF => ?_⟩
  have hn' : args.length ≤ fn.ntmps := by simpa using hn
  have hnb' : bor.length ≤ 64 := by simpa using hnb
  refine calls_of_wp hf hb (h ⟨w, fun g => ∃ i, i < bor.length ∧ β i = some g, F, fn.ntmps, bor.length, β, fun g h => h⟩ rfl rfl _ w ⟨β, F, fun i => ?_, ?_, rfl, fun j => ?_, fun i j g hi hj => ?_, fun j g hj e => ?_, fun j g e => ?_, fun b hb => ⟨hF b hb, .inl hb⟩, .refl _ _, fun i _ => rfl, hnb'⟩)
  · simp only [St.of, look_ordL, Nat.zero_le, if_true, Nat.sub_zero]
    by_cases hi : i < args.length
    · have h1 : args[i]? = some args[i] := by simp [hi]
      have h2 : i < vs.length := by omega
      rw [h1]
      simp only [Option.getD_some]
      refine hvs i args[i] _ h1 ?_
      simp [Array.getElem?_append, h2]
    · have h1 : args[i]? = none := by simp; omega
      rw [h1]
      exact .any _
  · simp [hvl]; omega
  · simp only [St.of, look_ordL, Nat.zero_le, if_true, Nat.sub_zero]
    cases hb : bor[j]? with
    | none => trivial
    | some b => exact (hbor j b hb).1
  · intro e1 e2
    simp only [St.of, look_ordL, Nat.zero_le, if_true, Nat.sub_zero] at hi hj
    have hi' : i < bor.length := by
      rcases Nat.lt_or_ge i bor.length with h | h
      · exact h
      · rw [List.getElem?_eq_none h] at hi; exact absurd rfl hi
    have hj' : j < bor.length := by
      rcases Nat.lt_or_ge j bor.length with h | h
      · exact h
      · rw [List.getElem?_eq_none h] at hj; exact absurd rfl hj
    exact hinj i j g hi' hj' e1 e2
  · have hj' : j < bor.length := by
      simp only [St.of, look_ordL, Nat.zero_le, if_true, Nat.sub_zero] at hj
      rcases Nat.lt_or_ge j bor.length with h | h
      · exact h
      · rw [List.getElem?_eq_none h] at hj; exact absurd rfl hj
    obtain ⟨a1, a2⟩ := hown j g hj' e
    exact ⟨a1, .inr ⟨j, hj', e⟩, a2⟩
  · rcases Nat.lt_or_ge j bor.length with h | h
    · exact (hown j g h e).1
    · rw [hnone j h] at e; cases e

theorem out_of_fin {E : Env} {σ : St} {a : Act} {w : World} {β : Nat → Option Nat} {F : Nat → Prop} {r : Av} {v : Value} {ks : List Nat} {res : Av} {bor' news : List Blk} {nb : Nat} (hS : SRb E β F σ a w) (hr : AvR β F w r v)
    (hnb : E.nb = nb) (hlb : bor'.length = nb) (hf : Fin σ r nb ks res bor' news) (hlv : AllP ((ordL 0 bor').map fun p => p.2 ≠ .gone)) :
    ∃ β' F', AvR β' F' w res v ∧ (∀ i b, bor'[i]? = some b → BlkR β' F' w i b) ∧ (∀ i b, news[i]? = some b → BlkR β' F' w (nb + i) b) ∧ Out E.w0 E.M E.F0 nb news.length E.β0 β' F' w := by
  obtain ⟨f1, f2, f3, f4⟩ := hf
  simp only [Bool.and_eq_true] at f4
  obtain ⟨⟨⟨⟨⟨⟨o1, o2⟩, o3⟩, o4⟩, o5⟩, o6⟩, o7⟩ := f4
  have hkl : ks.length = news.length := Nat.eq_of_beq_eq_true o5
  have hnd : ks.Nodup := by simpa using o7
  have hρ1 : ∀ i, i < nb → rho nb ks i = i := fun i hi => by simp only [rho, show Nat.blt i nb = true from Nat.blt_eq.symm ▸ hi]
  have hρ2 : ∀ i, i < news.length → rho nb ks (nb + i) = ks.getD i 0 := fun i hi => by
    have : Nat.blt (nb + i) nb = false := by
      cases h : Nat.blt (nb + i) nb with
      | false => rfl
      | true => rw [Nat.blt_eq] at h; omega
    simp only [rho, this, Nat.add_sub_cancel_left]
  have hB1 : ∀ i b, bor'[i]? = some b → σ.hp i = b.ren (rho nb ks) := fun i b hi => by
    have := allP_map f2 _ (mem_ordL bor' 0 i b hi)
    simpa using this
  have hB2 : ∀ i b, news[i]? = some b → σ.hp (rho nb ks (nb + i)) = b.ren (rho nb ks) := fun i b hi => by
    have := allP_map f3 _ (mem_ordL news nb i b hi)
    simpa using this
  have hren : ∀ b : Blk, b ≠ .gone → b.ren (rho nb ks) ≠ .gone := by intro b hb; cases b <;> simp_all [Blk.ren]
  have hl1 : ∀ i, i < nb → σ.hp i ≠ .gone := fun i hi => by
    have h1 : bor'[i]? = some (bor'[i]'(by omega)) := by simp [show i < bor'.length by omega]
    rw [hB1 i _ h1]
    have := allP_map hlv _ (mem_ordL bor' 0 i _ h1)
    exact hren _ (by simpa using this)
  have hl2 : ∀ i, i < news.length → σ.hp (rho nb ks (nb + i)) ≠ .gone := fun i hi => by
    have h1 : news[i]? = some news[i] := by simp [hi]
    rw [hB2 i _ h1]
    refine hren _ ?_
    have := List.all_eq_true.1 o4 news[i] (List.getElem_mem hi)
    intro e
    rw [e] at this
    cases this
  have hk64 : ∀ i, i < news.length → 64 ≤ rho nb ks (nb + i) := fun i hi => by
    rw [hρ2 i hi]
    have hm : ks.getD i 0 ∈ ks := by
      rw [List.getD_eq_getElem?_getD, List.getElem?_eq_getElem (by omega), Option.getD_some]
      exact List.getElem_mem _
    have := List.all_eq_true.1 o6 _ hm
    simpa using this
  have hlive' : ∀ i, i < nb + news.length → σ.hp (rho nb ks i) ≠ .gone := fun i hi => by
    rcases Nat.lt_or_ge i nb with h | h
    · rw [hρ1 i h]; exact hl1 i h
    · obtain ⟨d, rfl⟩ : ∃ d, i = nb + d := ⟨i - nb, by omega⟩
      exact hl2 d (by omega)
  have hρinj : ∀ i j, i < nb + news.length → j < nb + news.length → rho nb ks i = rho nb ks j → i = j := fun i j hi hj e => by
    have hn64 := hS.nbl
    rcases Nat.lt_or_ge i nb with h | h
    · rcases Nat.lt_or_ge j nb with h' | h'
      · rw [hρ1 i h, hρ1 j h'] at e; exact e
      · obtain ⟨d, rfl⟩ : ∃ d, j = nb + d := ⟨j - nb, by omega⟩
        have := hk64 d (by omega)
        rw [← e, hρ1 i h] at this
        omega
    · obtain ⟨d, rfl⟩ : ∃ d, i = nb + d := ⟨i - nb, by omega⟩
      rcases Nat.lt_or_ge j nb with h' | h'
      · have := hk64 d (by omega)
        rw [e, hρ1 j h'] at this
        omega
      · obtain ⟨d', rfl⟩ : ∃ d, j = nb + d := ⟨j - nb, by omega⟩
        rw [hρ2 d (by omega), hρ2 d' (by omega)] at e
        rw [List.getD_eq_getElem?_getD, List.getD_eq_getElem?_getD, List.getElem?_eq_getElem (by omega), List.getElem?_eq_getElem (by omega), Option.getD_some, Option.getD_some] at e
        have := (List.getElem_inj hnd).1 e
        omega
  refine ⟨fun i => β (rho nb ks i), F, (f1 ▸ hr).unren (fun _ _ => rfl) o1, fun i b hi => ?_, fun i b hi => ?_, fun i hi => ?_, fun i j g hi hj e1 e2 => hρinj i j hi hj (hS.inj _ _ g (hlive' i hi) (hlive' j hj) e1 e2), fun j g hj e => ?_, fun i g hi e => ?_, hS.fr, hS.keep⟩
  · have hlt : i < nb := by rw [← hlb]; exact (List.getElem?_eq_some_iff.1 hi).1
    refine BlkR.unren (ρ := rho nb ks) (n := nb + news.length) (fun _ _ => rfl) ?_ (by omega) (List.all_eq_true.1 o2 b (List.mem_of_getElem? hi))
    rw [hρ1 i hlt, ← hB1 i b hi]
    exact hS.hp i
  · refine BlkR.unren (ρ := rho nb ks) (n := nb + news.length) (fun _ _ => rfl) ?_ (by have := (List.getElem?_eq_some_iff.1 hi).1; omega) (List.all_eq_true.1 o3 b (List.mem_of_getElem? hi))
    rw [← hB2 i b hi]
    exact hS.hp _
  · simp only [hρ1 i hi]
    exact hS.bb i (by omega)
  · obtain ⟨a1, _, a3⟩ := hS.own _ g (hlive' j hj) e
    exact ⟨a1, a3⟩
  · obtain ⟨_, a2, _⟩ := hS.own _ g (hl2 i hi) e
    rcases a2 with a2 | a2
    · exact a2
    · exfalso
      obtain ⟨k, hk, hk'⟩ := E.hM g a2
      rw [hnb] at hk
      have e' : β k = some g := (hS.bb k (by omega)).trans hk'
      have := hS.inj _ _ g (hl2 i hi) (hl1 k hk) e e'
      have h64 := hk64 i hi
      have := hS.nbl
      omega

end Go.Sx

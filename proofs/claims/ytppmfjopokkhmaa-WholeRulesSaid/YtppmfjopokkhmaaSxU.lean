/-
  A row of the call's own becomes data: nothing writes it any more. No condition.
-/
import Derived.Test.YtppmfjopokkhmaaSxT
namespace Go.Sx
open Go
set_option linter.unusedVariables false

/-- Cell c, when row j, which holds d, becomes data: c'. -/
def FrzC (d : Leaf) (j : Nat) : Cell → Cell → Prop
  | .own i sz off len, .lf (.ints k y) => i = j ∧ sz = 1 ∧ (match d with | .ints k' l => k = k' ∧ off + len ≤ l.length ∧ y = (l.drop off).take len | _ => False)
  | .own i sz off len, .lf (.recs s y) => i = j ∧ sz = s ∧ (match d with | .recs s' l => s = s' ∧ off = 0 ∧ len ≤ l.length ∧ y = l.take len | _ => False)
  | c, c' => c' = c.kill j
def FrzCs (d : Leaf) (j : Nat) : List Cell → List Cell → Prop
  | [], [] => True
  | c :: l, c' :: l' => FrzC d j c c' ∧ FrzCs d j l l'
  | _, _ => False
def FrzA1 (d : Leaf) (j : Nat) : Av → Av → Prop
  | .c c, .c c' => FrzC d j c c'
  | .agg l, .agg l' => FrzCs d j l l'
  | .ai k l, .ai k' l' => k = k' ∧ l = l'
  | _, _ => False
def FrzA1s (d : Leaf) (j : Nat) : List Av → List Av → Prop
  | [], [] => True
  | c :: l, c' :: l' => FrzA1 d j c c' ∧ FrzA1s d j l l'
  | _, _ => False
def FrzA (d : Leaf) (j : Nat) : Av → Av → Prop
  | .tup l, .tup l' => FrzA1s d j l l'
  | x, x' => FrzA1 d j x x'

section
variable {β β' : Nat → Option Nat} {F F' : Nat → Prop} {w : World} {j : Nat} {d : Leaf}

theorem FrzC.sound (hB : BlkR β F w j (.row d)) (hg : ∀ g, β j = some g → F' g) (hF : ∀ b, F b → F' b) (hβ : ∀ i, i ≠ j → β' i = β i) {c c' : Cell} {v : Value} (h : FrzC d j c c') (hv : CellR β F w c v) : CellR β' F' w c' v := by
  have hm : ∀ {c : Cell} {v : Value}, CellR β F w c v → CellR β' F' w (c.kill j) v := fun hv => (hv.kill (β' := β') hβ).mono (fun _ _ h => h) (fun b hb => ⟨hF b hb, rfl⟩) (fun _ _ h => h)
  unfold FrzC at h
  split at h
  · obtain ⟨rfl, rfl, h⟩ := h
    rename_i i off len k y
    split at h
    · obtain ⟨rfl, h2, rfl⟩ := h
      rename_i k l
      cases hv with | own _ _ _ _ a c hc hmx hh =>
      refine .lf (.ints _ _ _ _ _ (by simp; omega) hc hmx fun hne => ?_)
      have hlen : 0 < len := by
        rcases Nat.eq_zero_or_pos len with h | h
        · subst h; simp at hne
        · exact h
      rcases hh with rfl | ⟨g, hgj, rfl, hcap⟩
      · omega
      · refine ⟨g, off, rfl, hg g hgj, fun i x hx => ?_⟩
        rcases hB with ⟨h0, _⟩ | ⟨g', cur, hg', hrow, hcs⟩
        · subst h0; simp at hne
        · rw [hgj] at hg'
          obtain rfl := Option.some.inj hg'
          rw [hrow.cell]
          rw [List.getElem?_take] at hx
          split at hx
          · rw [List.getElem?_drop] at hx
            exact hcs _ x hx
          · cases hx
    · cases h
  · obtain ⟨rfl, rfl, h⟩ := h
    rename_i i sz off len y
    split at h
    · obtain ⟨rfl, rfl, h2, rfl⟩ := h
      rename_i l
      cases hv with | own _ _ _ _ a c hc hmx hh =>
      obtain ⟨hb1, hb2⟩ := hB
      have key : ∀ g cur, β i = some g → Row w g cur → (∀ i r k x, l[i]? = some r → r[k]? = some x → ∃ v, cur[i * sz + k]? = some v ∧ LfR F w x v) →
          LfR F' w (.recs sz (l.take len)) (.slice a len c) := by
        intro g cur hgj hrow hcs
        refine .recs _ _ _ _ _ (fun i k => cur.getD (i * sz + k) undef) (by simp; omega) hc hmx (fun r hr => hb1 r (List.mem_of_mem_take hr)) (fun hne => ?_) (fun i r k x hi hk => ?_)
        · have hlen : 0 < len := by
            rcases Nat.eq_zero_or_pos len with h | h
            · subst h; simp at hne
            · exact h
          rcases hh with rfl | ⟨g', hgj', rfl, hcap⟩
          · omega
          · rw [hgj] at hgj'
            obtain rfl := Option.some.inj hgj'
            refine ⟨g, 0, rfl, hg g hgj, fun i r k x hi hk => ?_⟩
            rw [Nat.zero_add, hrow.cell]
            rw [List.getElem?_take] at hi
            split at hi
            · obtain ⟨u, hu, _⟩ := hcs i r k x hi hk
              rw [hu]
              simp [hu]
            · cases hi
        · rw [List.getElem?_take] at hi
          split at hi
          · obtain ⟨u, hu, hl⟩ := hcs i r k x hi hk
            simp only [Array.getD_eq_getD_getElem?, hu, Option.getD_some]
            exact hl.mono fun b hb => ⟨hF b hb, rfl⟩
          · cases hi
      rcases hb2 with ⟨h0, _⟩ | ⟨g, cur, hgj, hrow, hcs⟩
      · subst h0
        refine .lf (.recs _ _ _ _ _ (fun _ _ => undef) (by simp at *; omega) hc hmx (fun r hr => by simp at hr) (fun hne => by simp at hne) (fun i r k x hi => by simp at hi))
      · exact .lf (key g cur hgj hrow hcs)
    · cases h
  · subst h
    exact hm hv

theorem FrzCs.get : ∀ {l l' : List Cell}, FrzCs d j l l' → l.length = l'.length ∧ ∀ (i : Nat) (c' : Cell), l'[i]? = some c' → ∃ c, l[i]? = some c ∧ FrzC d j c c'
  | [], [], _ => ⟨rfl, fun i c' h => by simp at h⟩
  | c :: l, c' :: l', h => by
    obtain ⟨h1, h2⟩ := FrzCs.get h.2
    refine ⟨by simp [h1], fun i x hx => ?_⟩
    match i, hx with
    | 0, hx => simp at hx; subst hx; exact ⟨c, rfl, h.1⟩
    | i + 1, hx => exact h2 i x (by simpa using hx)
  | [], _ :: _, h => h.elim
  | _ :: _, [], h => h.elim

theorem FrzA1.sound (hB : BlkR β F w j (.row d)) (hg : ∀ g, β j = some g → F' g) (hF : ∀ b, F b → F' b) (hβ : ∀ i, i ≠ j → β' i = β i) {x x' : Av} {v : Value} (h : FrzA1 d j x x') (hv : AvR β F w x v) (hu : x ≠ .c .un) : AvR β' F' w x' v := by
  unfold FrzA1 at h
  split at h
  · cases hv with
    | c hv => exact .c (h.sound hB hg hF hβ hv)
    | any => exact absurd rfl hu
  · obtain ⟨h1, h2⟩ := h.get
    cases hv with | agg _ cs h3 h4 =>
    refine .agg _ _ (by rw [h3, h1]) fun i x v hx hv => ?_
    obtain ⟨c, hc, hf⟩ := h2 i x hx
    exact hf.sound hB hg hF hβ (h4 i c v hc hv)
  · obtain ⟨rfl, rfl⟩ := h
    cases hv with | ai => exact .ai _ _
  · cases h

theorem FrzA1s.get : ∀ {l l' : List Av}, FrzA1s d j l l' → l.length = l'.length ∧ ∀ (i : Nat) (c' : Av), l'[i]? = some c' → ∃ c, l[i]? = some c ∧ FrzA1 d j c c'
  | [], [], _ => ⟨rfl, fun i c' h => by simp at h⟩
  | c :: l, c' :: l', h => by
    obtain ⟨h1, h2⟩ := FrzA1s.get h.2
    refine ⟨by simp [h1], fun i x hx => ?_⟩
    match i, hx with
    | 0, hx => simp at hx; subst hx; exact ⟨c, rfl, h.1⟩
    | i + 1, hx => exact h2 i x (by simpa using hx)
  | [], _ :: _, h => h.elim
  | _ :: _, [], h => h.elim

/-- No part of x is unknown. -/
def notUn : Av → Bool
  | .c .un => false
  | .tup xs => xs.all fun x => match x with | .c .un => false | _ => true
  | _ => true

theorem FrzA.sound (hB : BlkR β F w j (.row d)) (hg : ∀ g, β j = some g → F' g) (hF : ∀ b, F b → F' b) (hβ : ∀ i, i ≠ j → β' i = β i) {x x' : Av} {v : Value} (h : FrzA d j x x') (hv : AvR β F w x v) (hu : notUn x = true) : AvR β' F' w x' v := by
  unfold FrzA at h
  split at h
  · obtain ⟨h1, h2⟩ := h.get
    cases hv with | tup _ cs h3 h4 =>
    refine .tup _ _ (by rw [h3, h1]) fun i x v hx hv => ?_
    obtain ⟨c, hc, hf⟩ := h2 i x hx
    refine hf.sound hB hg hF hβ (h4 i c v hc hv) ?_
    rintro rfl
    have := List.all_eq_true.1 hu _ (List.mem_of_getElem? hc)
    simp at this
  · refine h.sound hB hg hF hβ hv ?_
    rintro rfl
    cases hu
end

def St.setAll (σ : St) : List (Nat × Av) → St
  | [] => σ
  | (i, x) :: l => (σ.set i x).setAll l

/-- The ghost step. -/
theorem SRb.freeze {E : Env} {β : Nat → Option Nat} {F : Nat → Prop} {σ : St} {a : Act} {w : World} (h : SRb E β F σ a w) {j : Nat} {d : Leaf} (hj : σ.hp j = .row d) (hjn : E.nb ≤ j) (hl : ∀ i, i < E.nb → σ.hp i ≠ .gone) (ss : List (Nat × Av))
    (hs : ∀ p, p ∈ ss → FrzA d j (σ.tm p.1) p.2 ∧ notUn (σ.tm p.1) = true) : SR E ((σ.kill j).setAll ss) a w := by
  have hgone : σ.hp j ≠ .gone := by rw [hj]; intro h; cases h
  have hB := h.hp j
  rw [hj] at hB
  let β' : Nat → Option Nat := fun i => if i = j then none else β i
  let F' : Nat → Prop := fun b => F b ∨ β j = some b
  have hβ : ∀ i, i ≠ j → β' i = β i := fun i hi => if_neg hi
  have hk := h.kill j hjn
  have hF : ∀ b, F b → F' b := fun b hb => .inl hb
  -- the state with the block gone, in the greater F
  have hk2 : SRb E β' F' (σ.kill j) a w := by
    refine ⟨fun i => (hk.tm i).mono (fun _ _ h => h) (fun b hb => ⟨hF b hb, rfl⟩) (fun _ _ h => h), hk.sz, hk.df, fun i => ?_, hk.inj, fun i g hi e => ?_, hk.lt, fun b hb => ?_, hk.keep, hk.bb, hk.nbl⟩
    · have := hk.hp i
      revert this
      cases (σ.kill j).hp i with
      | gone => exact fun _ => trivial
      | cells cs =>
        rintro ⟨g, cur, e1, e2, e3, e4⟩
        exact ⟨g, cur, e1, e2, e3, fun i x v hx hv => (e4 i x v hx hv).mono (fun _ _ h => h) (fun b hb => ⟨hF b hb, rfl⟩) (fun _ _ h => h)⟩
      | row d =>
        cases d with
        | ints k l => exact fun h => h
        | recs sz l =>
          rintro ⟨e1, e2⟩
          refine ⟨e1, ?_⟩
          rcases e2 with e2 | ⟨g, cur, e2, e3, e4⟩
          · exact .inl e2
          · refine .inr ⟨g, cur, e2, e3, fun i r k x hi hk => ?_⟩
            obtain ⟨u, hu, hl⟩ := e4 i r k x hi hk
            exact ⟨u, hu, hl.mono fun b hb => ⟨hF b hb, rfl⟩⟩
        | v => exact fun h => h
        | obj => exact fun h => h
    · obtain ⟨a1, a2, a3⟩ := hk.own i g hi e
      refine ⟨a1, a2, ?_⟩
      rintro (hf | hf)
      · exact a3 hf
      · have e : (if i = j then none else β i) = some g := e
        by_cases hij : i = j
        · simp [hij] at e
        · simp only [hij, if_false] at e
          have hi' : σ.hp i ≠ .gone := by
            simp only [St.kill, hij, decide_false] at hi
            exact Blk.kill_ne hi
          exact hij (h.inj i j g hi' hgone e hf)
    · rcases hb with hb | hb
      · exact h.fr b hb
      · obtain ⟨a1, a2, a3⟩ := h.own j b hgone hb
        refine ⟨a1, ?_⟩
        rcases a2 with a2 | a2
        · exact .inr a2
        · obtain ⟨i, hi, e⟩ := E.hM b a2
          have e' := h.bb i hi
          rw [e] at e'
          have := h.inj i j b (hl i hi) hgone e' hb
          omega
  refine ⟨β', F', ?_⟩
  have key : ∀ (ss : List (Nat × Av)) (τ : St), SRb E β' F' τ a w → (∀ p, p ∈ ss → AvR β' F' w p.2 (a.tmps.getD p.1 undef)) → SRb E β' F' (τ.setAll ss) a w := by
    intro ss
    induction ss with
    | nil => intro τ hτ _; exact hτ
    | cons p ss ih =>
      intro τ hτ hp
      obtain ⟨i, x⟩ := p
      refine ih _ ?_ (fun q hq => hp q (List.mem_cons_of_mem _ hq))
      refine ⟨fun k => ?_, hτ.sz, hτ.df, hτ.hp, hτ.inj, hτ.own, hτ.lt, hτ.fr, hτ.keep, hτ.bb, hτ.nbl⟩
      by_cases hk : k = i
      · subst hk; simpa [St.set] using hp (k, x) (List.mem_cons_self ..)
      · simpa [St.set, hk] using hτ.tm k
  refine key ss _ hk2 fun p hp => ?_
  obtain ⟨h1, h2⟩ := hs p hp
  exact h1.sound hB (fun g hg => .inr hg) hF hβ (h.tm p.1) h2

section
variable {P : Program} {E : Env} {ops : Array Oper} {Q : Exit → Act → World → Prop} {rest : List Oper} {σ : St}
def FrzAll (σ : St) (d : Leaf) (j : Nat) (ss : List (Nat × Av)) : Prop := AllP (ss.map fun p => FrzA d j (σ.tm p.1) p.2) ∧ (ss.all fun p => notUn (σ.tm p.1)) = true
theorem SR.freeze {a : Act} {w : World} (h : SR E σ a w) (j : Nat) (ss : List (Nat × Av)) {d : Leaf} (hj : σ.hp j = .row d) (hnb : E.nb = 0) (hs : FrzAll σ d j ss) : SR E ((σ.kill j).setAll ss) a w := by
  obtain ⟨β, F, h⟩ := h
  refine h.freeze hj (by omega) (fun i hi => by omega) ss fun p hp => ⟨allP_map hs.1 p hp, List.all_eq_true.1 hs.2 p hp⟩
theorem WL_freeze (j : Nat) (ss : List (Nat × Av)) {d : Leaf} (hj : σ.hp j = .row d) (hnb : E.nb = 0) (hs : FrzAll σ d j ss) (h : WL P E ops Q rest ((σ.kill j).setAll ss)) : WL P E ops Q rest σ := fun a w hS => h a w (hS.freeze j ss hj hnb hs)
theorem W_freeze {c : Code} (j : Nat) (ss : List (Nat × Av)) {d : Leaf} (hj : σ.hp j = .row d) (hnb : E.nb = 0) (hs : FrzAll σ d j ss) (h : W P E c Q ((σ.kill j).setAll ss)) : W P E c Q σ := fun a w hS => h a w (hS.freeze j ss hj hnb hs)
theorem N_freeze {e : Exit} (j : Nat) (ss : List (Nat × Av)) {d : Leaf} (hj : σ.hp j = .row d) (hnb : E.nb = 0) (hs : FrzAll σ d j ss) (h : N E Q e ((σ.kill j).setAll ss)) : N E Q e σ := fun a w hS => h a w (hS.freeze j ss hj hnb hs)

/-- A contract whose one new row is handed over as data. -/
theorem Ct.freeze {f : FuncId} {args : List Av} {res res' : Av} {d : Leaf} (h : Ct P f args [] res [] [.row d]) (hf : FrzA d 0 res res') (hu : notUn res = true) : Ct P f args [] res' [] [] := by
  obtain ⟨h1, h2, h3⟩ := h
  refine ⟨rfl, h2, fun w β F vs c1 c2 c3 c4 c5 c6 c7 => ?_⟩
  refine (h3 w β F vs c1 c2 c3 c4 c5 c6 c7).mono fun e w' hq => ?_
  obtain ⟨v, β', F', rfl, k1, k2, k3, k4⟩ := hq
  have hB := k3 0 _ rfl
  refine ⟨v, fun i => if i = 0 then none else β' i, fun b => F' b ∨ β' 0 = some b, rfl, ?_, fun i b h => by simp at h, fun i b h => by simp at h, ?_⟩
  · exact hf.sound (β' := fun i => if i = 0 then none else β' i) (F' := fun b => F' b ∨ β' 0 = some b) hB (fun g hg => .inr hg) (fun b hb => .inl hb) (fun i hi => if_neg hi) k1 hu
  · refine ⟨fun i hi => absurd hi (Nat.not_lt_zero _), fun i j g hi => absurd hi (Nat.not_lt_zero _), fun i g hi => absurd hi (Nat.not_lt_zero _), fun i g hi => absurd hi (Nat.not_lt_zero _), fun b hb => ?_, k4.keep⟩
    rcases hb with hb | hb
    · exact k4.fr b hb
    · exact ⟨(k4.own 0 b (by simp) hb).1, .inr (k4.new 0 b (by simp) hb)⟩
end
end Go.Sx

/-
  Slicing, parts, lengths; all pure operations in one function, and its soundness. No condition.
-/
import Derived.Test.YtppmfjopokkhmaaSxC
namespace Go.Sx
open Go
set_option linter.unusedVariables false

/-- A bound of a slice expression: the value, or what stands for it. -/
def Bd (o : Option Value) (d n : Nat) : Prop := (o = none ∧ n = d) ∨ ∃ k i, o = some (.int k i) ∧ 0 ≤ i ∧ n = i.toNat

theorem run_bounds {P : Program} {w : World} {s : Bool} {len cap l h m : Nat} {lo hi mx : Option Value} (hm : Bd mx cap m) (hmc : m ≤ cap) (hh : Bd hi len h) (hhm : h ≤ m) (hl : Bd lo 0 l) (hlh : l ≤ h)
    (hx : mx.isSome = true → hi.isSome = true) : (Instr.sliceBounds s len cap lo hi mx).run P w = .ok (l, h, m) w := by
  have b1 : ∀ (k : IntKind) (i : Int) (y : Nat) (c : BoundsCode), 0 ≤ i → i.toNat ≤ y → (Instr.sliceBound (.int k i) y c).run P w = .ok i.toNat w := by
    intro k i y c h0 h1
    have : i ≤ (y : Int) := by omega
    simp [Instr.sliceBound, asIntOf, h0, this]
  rcases hm with ⟨rfl, rfl⟩ | ⟨km, im, rfl, hm0, rfl⟩
  · rcases hh with ⟨rfl, rfl⟩ | ⟨kh, ih, rfl, hh0, rfl⟩
    · rcases hl with ⟨rfl, rfl⟩ | ⟨kl, il, rfl, hl0, rfl⟩
      · simp [Instr.sliceBounds]
      · simp [Instr.sliceBounds, b1 kl il _ _ hl0 hlh]
    · rcases hl with ⟨rfl, rfl⟩ | ⟨kl, il, rfl, hl0, rfl⟩
      · simp [Instr.sliceBounds, b1 kh ih _ _ hh0 hhm]
      · simp [Instr.sliceBounds, b1 kh ih _ _ hh0 hhm, b1 kl il _ _ hl0 hlh]
  · rcases hh with ⟨rfl, rfl⟩ | ⟨kh, ih, rfl, hh0, rfl⟩
    · simp at hx
    · rcases hl with ⟨rfl, rfl⟩ | ⟨kl, il, rfl, hl0, rfl⟩
      · simp [Instr.sliceBounds, b1 km im _ _ hm0 hmc, b1 kh ih _ _ hh0 hhm]
      · simp [Instr.sliceBounds, b1 km im _ _ hm0 hmc, b1 kh ih _ _ hh0 hhm, b1 kl il _ _ hl0 hlh]

theorem run_slice' {P : Program} {w : World} {t e : TypeId} {a : Option Addr} {len cap l h m : Nat} {lo hi mx : Option Value} (ht : P.underlying t = some (.slice e)) (hi' : (P.info? e).isSome = true)
    (hm : Bd mx cap m) (hmc : m ≤ cap) (hh : Bd hi len h) (hhm : h ≤ m) (hl : Bd lo 0 l) (hlh : l ≤ h) (hx : mx.isSome = true → hi.isSome = true) :
    (Instr.sliceAt t (.slice a len cap) lo hi mx).run P w = .ok (.slice (if m = l then a else a.map (·.add (l * P.cellsOf e))) (h - l) (m - l)) w := by
  simp [Instr.sliceAt, Instr.slice, run_underlying ht, run_bounds hm hmc hh hhm hl hlh hx, run_sizeOf' hi']

/-- Bounds as numbers. -/
def bndP : Option (List Prop × Av) → Option (List Prop × Option Int)
  | none => some ([], none)
  | some (p, .c (.lf (.v (.int k i)))) => some (p, some i)
  | _ => none

theorem bndP_out {o : Option (List Prop × Av)} {p : List Prop} {i : Option Int} (h : bndP o = some (p, i)) (hp : AllP p) {β : Nat → Option Nat} {F : Nat → Prop} {w : World} {v : Option Value}
    (hv : (o = none ∧ v = none) ∨ ∃ q x u, o = some (q, x) ∧ v = some u ∧ (AllP q → AvR β F w x u)) : (i = none ∧ v = none) ∨ ∃ k j, i = some j ∧ v = some (.int k j) := by
  rcases hv with ⟨rfl, rfl⟩ | ⟨q, x, u, rfl, rfl, hx⟩
  · simp only [bndP, Option.some.injEq, Prod.mk.injEq] at h
    exact .inl ⟨h.2.symm, rfl⟩
  · unfold bndP at h
    split at h
    · cases ‹some (q, x) = none›
    · rename_i p' k i' h1
      simp only [Option.some.injEq, Prod.mk.injEq] at h1 h
      obtain ⟨rfl, rfl⟩ := h1
      obtain ⟨rfl, rfl⟩ := h
      have := (hx hp).val
      subst this
      exact .inr ⟨_, _, rfl, rfl⟩
    · cases h

def sliceP (P : Program) (σ : St) (t : TypeId) (x : List Prop × Av) (lo hi mx : Option (List Prop × Av)) : Option (List Prop × Av) :=
  match bndP lo, bndP hi, bndP mx with
  | some (pl, l), some (ph, h), some (pm, none) =>
    match P.underlying t with
    | some (.slice e) =>
      match x with
      | (p, .c (.lf (.ints k xs))) =>
        match l, h with
        | none, none => some ((p ++ pl ++ ph ++ pm) ++ [P.cellsOf e = 1], .c (.lf (.ints k xs)))
        | some a, none => some ((p ++ pl ++ ph ++ pm) ++ [P.cellsOf e = 1, 0 ≤ a, a ≤ (xs.length : Int)], .c (.lf (.ints k (xs.drop a.toNat))))
        | none, some b => some ((p ++ pl ++ ph ++ pm) ++ [P.cellsOf e = 1, 0 ≤ b, b ≤ (xs.length : Int)], .c (.lf (.ints k (xs.take b.toNat))))
        | some a, some b => some ((p ++ pl ++ ph ++ pm) ++ [P.cellsOf e = 1, 0 ≤ a, a ≤ b, b ≤ (xs.length : Int)], .c (.lf (.ints k ((xs.take b.toNat).drop a.toNat))))
      | (p, .c (.lf (.recs sz xs))) =>
        match l, h with
        | none, none => some ((p ++ pl ++ ph ++ pm) ++ [P.cellsOf e = sz, (P.info? e).isSome = true], .c (.lf (.recs sz xs)))
        | some a, none => some ((p ++ pl ++ ph ++ pm) ++ [P.cellsOf e = sz, (P.info? e).isSome = true, 0 ≤ a, a ≤ (xs.length : Int)], .c (.lf (.recs sz (xs.drop a.toNat))))
        | none, some b => some ((p ++ pl ++ ph ++ pm) ++ [P.cellsOf e = sz, (P.info? e).isSome = true, 0 ≤ b, b ≤ (xs.length : Int)], .c (.lf (.recs sz (xs.take b.toNat))))
        | some a, some b => some ((p ++ pl ++ ph ++ pm) ++ [P.cellsOf e = sz, (P.info? e).isSome = true, 0 ≤ a, a ≤ b, b ≤ (xs.length : Int)], .c (.lf (.recs sz ((xs.take b.toNat).drop a.toNat))))
      | (p, .c (.own j sz off len)) =>
        match l, h with
        | none, none => some ((p ++ pl ++ ph ++ pm) ++ [P.cellsOf e = sz, (P.info? e).isSome = true], .c (.own j sz off len))
        | some a, none => some ((p ++ pl ++ ph ++ pm) ++ [P.cellsOf e = sz, (P.info? e).isSome = true, 0 ≤ a, a ≤ (len : Int)], .c (.own j sz (off + a.toNat * sz) (len - a.toNat)))
        | none, some b => some ((p ++ pl ++ ph ++ pm) ++ [P.cellsOf e = sz, (P.info? e).isSome = true, 0 ≤ b, b ≤ (len : Int)], .c (.own j sz off b.toNat))
        | some a, some b => some ((p ++ pl ++ ph ++ pm) ++ [P.cellsOf e = sz, (P.info? e).isSome = true, 0 ≤ a, a ≤ b, b ≤ (len : Int)], .c (.own j sz (off + a.toNat * sz) (b.toNat - a.toNat)))
      | _ => none
    | some .string =>
      match x with
      | (p, .c (.lf (.v (.string s)))) =>
        match l, h with
        | none, none => some (p ++ pl ++ ph ++ pm, lv (.string (s.extract 0 s.size)))
        | some a, none => some ((p ++ pl ++ ph ++ pm) ++ [0 ≤ a, a ≤ (s.size : Int)], lv (.string (s.extract a.toNat s.size)))
        | none, some b => some ((p ++ pl ++ ph ++ pm) ++ [0 ≤ b, b ≤ (s.size : Int)], lv (.string (s.extract 0 b.toNat)))
        | some a, some b => some ((p ++ pl ++ ph ++ pm) ++ [0 ≤ a, a ≤ b, b ≤ (s.size : Int)], lv (.string (s.extract a.toNat b.toNat)))
      | _ => none
    | some (.array n e) =>
      match x with
      | (p, .c (.ptr j off)) =>
        match σ.hp j with
        | .row (.ints k xs) =>
          match l, h with
          | none, none => some ((p ++ pl ++ ph ++ pm) ++ [P.cellsOf e = 1, off + n ≤ xs.length, xs ≠ [], n ≤ maxLen], .c (.own j 1 off n))
          | some a, none => some ((p ++ pl ++ ph ++ pm) ++ [P.cellsOf e = 1, off + n ≤ xs.length, xs ≠ [], n ≤ maxLen, 0 ≤ a, a ≤ (n : Int)], .c (.own j 1 (off + a.toNat * 1) (n - a.toNat)))
          | none, some b => some ((p ++ pl ++ ph ++ pm) ++ [P.cellsOf e = 1, off + n ≤ xs.length, xs ≠ [], n ≤ maxLen, 0 ≤ b, b ≤ (n : Int)], .c (.own j 1 off b.toNat))
          | some a, some b => some ((p ++ pl ++ ph ++ pm) ++ [P.cellsOf e = 1, off + n ≤ xs.length, xs ≠ [], n ≤ maxLen, 0 ≤ a, a ≤ b, b ≤ (n : Int)], .c (.own j 1 (off + a.toNat * 1) (b.toNat - a.toNat)))
        | _ => none
      | _ => none
    | _ => none
  | _, _, _ => none

/-- A cut of data. -/
theorem LfR.cut_ints {F : Nat → Prop} {w : World} {k : IntKind} {xs : List Int} {a : Option Addr} {n c : Nat} (h : LfR F w (.ints k xs) (.slice a n c)) {l m : Nat} (hl : l ≤ m) (hm : m ≤ xs.length) :
    LfR F w (.ints k ((xs.take m).drop l)) (.slice (if c = l then a else a.map (·.add (l * 1))) (m - l) (c - l)) := by
  cases h with | ints _ _ _ _ _ hn hc hmx hh =>
  subst hn
  refine .ints _ _ _ _ _ (by simp; omega) (by omega) (by omega) fun hne => ?_
  have hlt : l < m := by
    rcases Nat.lt_or_ge l m with h | h
    · exact h
    · exfalso; exact hne (List.eq_nil_of_length_eq_zero (by simp; omega))
  obtain ⟨b, o, rfl, hF, hx⟩ := hh (by intro h; subst h; simp at hm; omega)
  refine ⟨b, o + l, ?_, hF, fun i x hi => ?_⟩
  · rw [if_neg (by omega)]; simp [add_none]
  · rw [List.getElem?_drop, List.getElem?_take] at hi
    split at hi
    · rw [Nat.add_assoc]; exact hx _ x hi
    · cases hi

theorem LfR.cut_recs {F : Nat → Prop} {w : World} {sz : Nat} {xs : List (List Leaf)} {a : Option Addr} {n c : Nat} (h : LfR F w (.recs sz xs) (.slice a n c)) {l m : Nat} (hl : l ≤ m) (hm : m ≤ xs.length) :
    LfR F w (.recs sz ((xs.take m).drop l)) (.slice (if c = l then a else a.map (·.add (l * sz))) (m - l) (c - l)) := by
  cases h with | recs _ _ _ _ _ vs hn hc hmx hs hh hv =>
  subst hn
  refine .recs _ _ _ _ _ (fun i j => vs (l + i) j) (by simp; omega) (by omega) (by omega) (fun r hr => hs r (List.mem_of_mem_take (List.mem_of_mem_drop hr))) (fun hne => ?_) (fun i r j x hi hj => ?_)
  · have hlt : l < m := by
      rcases Nat.lt_or_ge l m with h | h
      · exact h
      · exfalso; exact hne (List.eq_nil_of_length_eq_zero (by simp; omega))
    obtain ⟨b, o, rfl, hF, hx⟩ := hh (by intro h; subst h; simp at hm; omega)
    refine ⟨b, o + l * sz, ?_, hF, fun i r j x hi hj => ?_⟩
    · rw [if_neg (by omega)]; simp [add_none]
    · rw [List.getElem?_drop, List.getElem?_take] at hi
      split at hi
      · have := hx _ r j x hi hj
        rw [show o + l * sz + i * sz + j = o + (l + i) * sz + j by rw [Nat.add_mul]; omega]
        exact this
      · cases hi
  · rw [List.getElem?_drop, List.getElem?_take] at hi
    split at hi
    · exact hv _ r j x hi hj
    · cases hi

theorem CellR.cut_own {β : Nat → Option Nat} {F : Nat → Prop} {w : World} {j sz off len : Nat} {a : Option Addr} {n c : Nat} (h : CellR β F w (.own j sz off len) (.slice a n c)) {l m : Nat} (hl : l ≤ m) (hm : m ≤ len) :
    CellR β F w (.own j sz (off + l * sz) (m - l)) (.slice (if c = l then a else a.map (·.add (l * sz))) (m - l) (c - l)) := by
  cases h with | own _ _ _ _ _ _ hc hmx hh =>
  refine .own _ _ _ _ _ _ (by omega) (by omega) ?_
  rcases hh with rfl | ⟨g, hg, rfl, cur, hrow, hcap⟩
  · exact .inl (by omega)
  · by_cases hcl : c = l
    · exact .inl (by omega)
    · refine .inr ⟨g, hg, by rw [if_neg hcl]; simp [add_none], cur, hrow, ?_⟩
      have : l * sz + (c - l) * sz = c * sz := by rw [← Nat.add_mul]; congr 1; omega
      omega

theorem Bd.none (d : Nat) : Bd none d d := .inl ⟨rfl, rfl⟩
theorem Bd.some {k : IntKind} {i : Int} (d : Nat) (h : 0 ≤ i) : Bd (some (.int k i)) d i.toNat := .inr ⟨k, i, rfl, h, rfl⟩

section
variable {P : Program} {w : World} {t e : TypeId} {β : Nat → Option Nat} {F : Nat → Prop} {lo hi : Option Value} {l h : Nat}

theorem sec_ints {k : IntKind} {xs : List Int} {v : Value} (ht : P.underlying t = some (.slice e)) (h1 : P.cellsOf e = 1) (hv : AvR β F w (.c (.lf (.ints k xs))) v) (hl : Bd lo 0 l) (hh : Bd hi xs.length h) (hlh : l ≤ h) (hhx : h ≤ xs.length) :
    ∃ z, (Instr.sliceAt t v lo hi none).run P w = .ok z w ∧ AvR β F w (.c (.lf (.ints k ((xs.take h).drop l)))) z := by
  cases hv with | c hv => cases hv with | lf hv =>
  have hv' := hv
  cases hv with | ints _ _ a n c hn hc hm _ =>
  have hi : (P.info? e).isSome = true := info_of_cells (by rw [h1]; decide)
  subst hn
  refine ⟨_, run_slice' ht hi (.none c) (Nat.le_refl _) hh (by omega) hl hlh (by simp), .c (.lf ?_)⟩
  rw [h1]
  exact hv'.cut_ints hlh hhx

theorem sec_recs {sz : Nat} {xs : List (List Leaf)} {v : Value} (ht : P.underlying t = some (.slice e)) (h1 : P.cellsOf e = sz) (hi' : (P.info? e).isSome = true) (hv : AvR β F w (.c (.lf (.recs sz xs))) v) (hl : Bd lo 0 l) (hh : Bd hi xs.length h) (hlh : l ≤ h) (hhx : h ≤ xs.length) :
    ∃ z, (Instr.sliceAt t v lo hi none).run P w = .ok z w ∧ AvR β F w (.c (.lf (.recs sz ((xs.take h).drop l)))) z := by
  cases hv with | c hv => cases hv with | lf hv =>
  have hv' := hv
  cases hv with | recs _ _ a n c vs hn hc hm =>
  subst hn
  refine ⟨_, run_slice' ht hi' (.none c) (Nat.le_refl _) hh (by omega) hl hlh (by simp), .c (.lf ?_)⟩
  rw [h1]
  exact hv'.cut_recs hlh hhx

theorem sec_own {j sz off len : Nat} {v : Value} (ht : P.underlying t = some (.slice e)) (h1 : P.cellsOf e = sz) (hi' : (P.info? e).isSome = true) (hv : AvR β F w (.c (.own j sz off len)) v) (hl : Bd lo 0 l) (hh : Bd hi len h) (hlh : l ≤ h) (hhx : h ≤ len) :
    ∃ z, (Instr.sliceAt t v lo hi none).run P w = .ok z w ∧ AvR β F w (.c (.own j sz (off + l * sz) (h - l))) z := by
  cases hv with | c hv =>
  have hv' := hv
  cases hv with | own _ _ _ _ a c hc hm _ =>
  refine ⟨_, run_slice' ht hi' (.none c) (Nat.le_refl _) hh (by omega) hl hlh (by simp), .c ?_⟩
  rw [h1]
  exact hv'.cut_own hlh hhx

theorem sec_str {s : ByteArray} {v : Value} (ht : P.underlying t = some .string) (hv : AvR β F w (lv (.string s)) v) (hl : Bd lo 0 l) (hh : Bd hi s.size h) (hlh : l ≤ h) (hhx : h ≤ s.size) :
    ∃ z, (Instr.sliceAt t v lo hi none).run P w = .ok z w ∧ AvR β F w (lv (.string (s.extract l h))) z := by
  obtain rfl := hv.val
  exact ⟨_, by simp [Instr.sliceAt, Instr.slice, run_underlying ht, run_bounds (.none s.size) (Nat.le_refl _) hh hhx hl hlh (by simp)], .c (.lf (.v _ rfl))⟩

theorem sec_arr {E : Env} {σ : St} {a : Act} {k : IntKind} {xs : List Int} {n j off : Nat} {v : Value} (hS : SRb E β F σ a w) (hb : σ.hp j = .row (.ints k xs)) (ht : P.underlying t = some (.array n e)) (h1 : P.cellsOf e = 1) (hv : AvR β F w (.c (.ptr j off)) v)
    (hn : off + n ≤ xs.length) (hne : xs ≠ []) (hmx : n ≤ maxLen) (hl : Bd lo 0 l) (hh : Bd hi n h) (hlh : l ≤ h) (hhx : h ≤ n) :
    ∃ z, (Instr.sliceAt t v lo hi none).run P w = .ok z w ∧ AvR β F w (.c (.own j 1 (off + l * 1) (h - l))) z := by
  have hB := hS.hp j
  rw [hb] at hB
  cases hv with | c hv => cases hv with | ptr _ _ g hg =>
  rcases hB with ⟨h0, _⟩ | ⟨g', cur, hg', hrow, hcs⟩
  · exact absurd h0 hne
  · rw [hg] at hg'
    obtain rfl := Option.some.inj hg'
    have hi : (P.info? e).isSome = true := info_of_cells (by rw [h1]; decide)
    have hsz : xs.length ≤ cur.size := by
      rcases Nat.lt_or_ge cur.size xs.length with h | h
      · have := hcs cur.size xs[cur.size] (by simp [h])
        simp at this
      · exact h
    refine ⟨.slice (some (if n = l then ⟨g, off, none⟩ else (⟨g, off, none⟩ : Addr).add (l * 1))) (h - l) (n - l), by simp only [Instr.sliceAt, Sem.run_bind, run_underlying ht, Result.andThen_ok, Instr.sureAddr, Sem.run_pure, run_bounds (.none n) (Nat.le_refl _) hh hhx hl hlh (by simp), run_sizeOf' hi, h1], .c (.own _ _ _ _ _ _ (by omega) (by omega) ?_)⟩
    by_cases hnl : n = l
    · exact .inl (by omega)
    · exact .inr ⟨g, hg, by rw [if_neg hnl, add_none], cur, hrow, by omega⟩
end

/-- How an operand that may be missing stands to its value. -/
def OptR (β : Nat → Option Nat) (F : Nat → Prop) (w : World) (o : Option (List Prop × Av)) (v : Option Value) : Prop := (o = none ∧ v = none) ∨ ∃ q x u, o = some (q, x) ∧ v = some u ∧ (AllP q → AvR β F w x u)

set_option maxHeartbeats 1000000 in
theorem sliceP_sound {P : Program} {E : Env} {σ : St} {a : Act} {w : World} {t : TypeId} {β : Nat → Option Nat} {F : Nat → Prop} {x : List Prop × Av} {lo hi mx : Option (List Prop × Av)} {v : Value} {vl vh vm : Option Value} {ps : List Prop} {y : Av}
    (h : sliceP P σ t x lo hi mx = some (ps, y)) (hp : AllP ps) (hS : SRb E β F σ a w) (hx : AllP x.1 → AvR β F w x.2 v) (hl : OptR β F w lo vl) (hh : OptR β F w hi vh) (hm : OptR β F w mx vm) :
    ∃ z, (Instr.sliceAt t v vl vh vm).run P w = .ok z w ∧ AvR β F w y z := by
  obtain ⟨p, x⟩ := x
  unfold sliceP at h
  split at h
  · rename_i pl l ph h' pm e1 e2 e3
    have K : AllP (p ++ pl ++ ph ++ pm) → (AvR β F w x v) ∧ ((l = none ∧ vl = none) ∨ ∃ k j, l = some j ∧ vl = some (.int k j)) ∧ ((h' = none ∧ vh = none) ∨ ∃ k j, h' = some j ∧ vh = some (.int k j)) ∧ vm = none := by
      intro hq
      refine ⟨hx hq.left.left.left, bndP_out e1 hq.left.left.right hl, bndP_out e2 hq.left.right hh, ?_⟩
      rcases bndP_out e3 hq.right hm with ⟨_, h⟩ | ⟨k, j, h, _⟩
      · exact h
      · cases h
    clear hx hl hh hm e1 e2 e3
    split at h
    · rename_i e ht
      split at h
      · rename_i p' k xs h1
        simp only [Prod.mk.injEq] at h1
        obtain ⟨rfl, rfl⟩ := h1
        split at h <;> simp only [Option.some.injEq, Prod.mk.injEq] at h <;> obtain ⟨rfl, rfl⟩ := h <;> obtain ⟨hv, hl, hh, rfl⟩ := K hp.left <;> have hr := hp.right
        · obtain rfl : vl = none := by rcases hl with ⟨_, h⟩ | ⟨_, _, h, _⟩; exact h; cases h
          obtain rfl : vh = none := by rcases hh with ⟨_, h⟩ | ⟨_, _, h, _⟩; exact h; cases h
          simpa using sec_ints ht hr hv (.none 0) (.none _) (Nat.zero_le _) (Nat.le_refl _)
        · rcases hl with ⟨h, _⟩ | ⟨kl, _, h, rfl⟩ <;> cases h
          obtain rfl : vh = none := by rcases hh with ⟨_, h⟩ | ⟨_, _, h, _⟩; exact h; cases h
          obtain ⟨c1, c2, c3⟩ := hr
          have c3' := c3
          simp only [AllP] at c3'
          simpa using sec_ints ht c1 hv (.some 0 c2) (.none _) (by omega) (Nat.le_refl _)
        · obtain rfl : vl = none := by rcases hl with ⟨_, h⟩ | ⟨_, _, h, _⟩; exact h; cases h
          rcases hh with ⟨h, _⟩ | ⟨kh, _, h, rfl⟩ <;> cases h
          obtain ⟨c1, c2, c3⟩ := hr
          have c3' := c3
          simp only [AllP] at c3'
          simpa using sec_ints ht c1 hv (.none 0) (.some _ c2) (Nat.zero_le _) (by omega)
        · rcases hl with ⟨h, _⟩ | ⟨kl, _, h, rfl⟩ <;> cases h
          rcases hh with ⟨h, _⟩ | ⟨kh, _, h, rfl⟩ <;> cases h
          obtain ⟨c1, c2, c3, c4⟩ := hr
          have c4' := c4
          simp only [AllP] at c4'
          exact sec_ints ht c1 hv (.some 0 c2) (.some _ (by omega)) (by omega) (by omega)
      · rename_i p' sz xs h1
        simp only [Prod.mk.injEq] at h1
        obtain ⟨rfl, rfl⟩ := h1
        split at h <;> simp only [Option.some.injEq, Prod.mk.injEq] at h <;> obtain ⟨rfl, rfl⟩ := h <;> obtain ⟨hv, hl, hh, rfl⟩ := K hp.left <;> have hr := hp.right
        · obtain rfl : vl = none := by rcases hl with ⟨_, h⟩ | ⟨_, _, h, _⟩; exact h; cases h
          obtain rfl : vh = none := by rcases hh with ⟨_, h⟩ | ⟨_, _, h, _⟩; exact h; cases h
          simpa using sec_recs ht hr.1 hr.2 hv (.none 0) (.none _) (Nat.zero_le _) (Nat.le_refl _)
        · rcases hl with ⟨h, _⟩ | ⟨kl, _, h, rfl⟩ <;> cases h
          obtain rfl : vh = none := by rcases hh with ⟨_, h⟩ | ⟨_, _, h, _⟩; exact h; cases h
          obtain ⟨c1, c0, c2, c3⟩ := hr
          have c3' := c3
          simp only [AllP] at c3'
          simpa using sec_recs ht c1 c0 hv (.some 0 c2) (.none _) (by omega) (Nat.le_refl _)
        · obtain rfl : vl = none := by rcases hl with ⟨_, h⟩ | ⟨_, _, h, _⟩; exact h; cases h
          rcases hh with ⟨h, _⟩ | ⟨kh, _, h, rfl⟩ <;> cases h
          obtain ⟨c1, c0, c2, c3⟩ := hr
          have c3' := c3
          simp only [AllP] at c3'
          simpa using sec_recs ht c1 c0 hv (.none 0) (.some _ c2) (Nat.zero_le _) (by omega)
        · rcases hl with ⟨h, _⟩ | ⟨kl, _, h, rfl⟩ <;> cases h
          rcases hh with ⟨h, _⟩ | ⟨kh, _, h, rfl⟩ <;> cases h
          obtain ⟨c1, c0, c2, c3, c4⟩ := hr
          have c4' := c4
          simp only [AllP] at c4'
          exact sec_recs ht c1 c0 hv (.some 0 c2) (.some _ (by omega)) (by omega) (by omega)
      · rename_i p' j sz off len h1
        simp only [Prod.mk.injEq] at h1
        obtain ⟨rfl, rfl⟩ := h1
        split at h <;> simp only [Option.some.injEq, Prod.mk.injEq] at h <;> obtain ⟨rfl, rfl⟩ := h <;> obtain ⟨hv, hl, hh, rfl⟩ := K hp.left <;> have hr := hp.right
        · obtain rfl : vl = none := by rcases hl with ⟨_, h⟩ | ⟨_, _, h, _⟩; exact h; cases h
          obtain rfl : vh = none := by rcases hh with ⟨_, h⟩ | ⟨_, _, h, _⟩; exact h; cases h
          simpa using sec_own ht hr.1 hr.2 hv (.none 0) (.none _) (Nat.zero_le _) (Nat.le_refl _)
        · rcases hl with ⟨h, _⟩ | ⟨kl, _, h, rfl⟩ <;> cases h
          obtain rfl : vh = none := by rcases hh with ⟨_, h⟩ | ⟨_, _, h, _⟩; exact h; cases h
          obtain ⟨c1, c0, c2, c3⟩ := hr
          have c3' := c3
          simp only [AllP] at c3'
          exact sec_own ht c1 c0 hv (.some 0 c2) (.none _) (by omega) (Nat.le_refl _)
        · obtain rfl : vl = none := by rcases hl with ⟨_, h⟩ | ⟨_, _, h, _⟩; exact h; cases h
          rcases hh with ⟨h, _⟩ | ⟨kh, _, h, rfl⟩ <;> cases h
          obtain ⟨c1, c0, c2, c3⟩ := hr
          have c3' := c3
          simp only [AllP] at c3'
          simpa using sec_own ht c1 c0 hv (.none 0) (.some _ c2) (Nat.zero_le _) (by omega)
        · rcases hl with ⟨h, _⟩ | ⟨kl, _, h, rfl⟩ <;> cases h
          rcases hh with ⟨h, _⟩ | ⟨kh, _, h, rfl⟩ <;> cases h
          obtain ⟨c1, c0, c2, c3, c4⟩ := hr
          have c4' := c4
          simp only [AllP] at c4'
          exact sec_own ht c1 c0 hv (.some 0 c2) (.some _ (by omega)) (by omega) (by omega)
      · cases h
    · rename_i ht
      split at h
      · rename_i p' s h1
        simp only [Prod.mk.injEq] at h1
        obtain ⟨rfl, rfl⟩ := h1
        split at h <;> simp only [Option.some.injEq, Prod.mk.injEq] at h <;> obtain ⟨rfl, rfl⟩ := h
        · obtain ⟨hv, hl, hh, rfl⟩ := K hp
          obtain rfl : vl = none := by rcases hl with ⟨_, h⟩ | ⟨_, _, h, _⟩; exact h; cases h
          obtain rfl : vh = none := by rcases hh with ⟨_, h⟩ | ⟨_, _, h, _⟩; exact h; cases h
          exact sec_str ht hv (.none 0) (.none _) (Nat.zero_le _) (Nat.le_refl _)
        · obtain ⟨hv, hl, hh, rfl⟩ := K hp.left
          rcases hl with ⟨h, _⟩ | ⟨kl, _, h, rfl⟩ <;> cases h
          obtain rfl : vh = none := by rcases hh with ⟨_, h⟩ | ⟨_, _, h, _⟩; exact h; cases h
          obtain ⟨c2, c3⟩ := hp.right
          have c3' := c3
          simp only [AllP] at c3'
          exact sec_str ht hv (.some 0 c2) (.none _) (by omega) (Nat.le_refl _)
        · obtain ⟨hv, hl, hh, rfl⟩ := K hp.left
          obtain rfl : vl = none := by rcases hl with ⟨_, h⟩ | ⟨_, _, h, _⟩; exact h; cases h
          rcases hh with ⟨h, _⟩ | ⟨kh, _, h, rfl⟩ <;> cases h
          obtain ⟨c2, c3⟩ := hp.right
          have c3' := c3
          simp only [AllP] at c3'
          exact sec_str ht hv (.none 0) (.some _ c2) (Nat.zero_le _) (by omega)
        · obtain ⟨hv, hl, hh, rfl⟩ := K hp.left
          rcases hl with ⟨h, _⟩ | ⟨kl, _, h, rfl⟩ <;> cases h
          rcases hh with ⟨h, _⟩ | ⟨kh, _, h, rfl⟩ <;> cases h
          obtain ⟨c2, c3, c4⟩ := hp.right
          have c4' := c4
          simp only [AllP] at c4'
          exact sec_str ht hv (.some 0 c2) (.some _ (by omega)) (by omega) (by omega)
      · cases h
    · rename_i n e ht
      split at h
      · rename_i p' j off h1
        simp only [Prod.mk.injEq] at h1
        obtain ⟨rfl, rfl⟩ := h1
        split at h
        · rename_i k xs hb
          split at h <;> simp only [Option.some.injEq, Prod.mk.injEq] at h <;> obtain ⟨rfl, rfl⟩ := h <;> obtain ⟨hv, hl, hh, rfl⟩ := K hp.left
          · obtain rfl : vl = none := by rcases hl with ⟨_, h⟩ | ⟨_, _, h, _⟩; exact h; cases h
            obtain rfl : vh = none := by rcases hh with ⟨_, h⟩ | ⟨_, _, h, _⟩; exact h; cases h
            obtain ⟨c1, c2, c3, c4⟩ := hp.right
            simpa using sec_arr hS hb ht c1 hv c2 c3 c4 (.none 0) (.none _) (Nat.zero_le _) (Nat.le_refl _)
          · rcases hl with ⟨h, _⟩ | ⟨kl, _, h, rfl⟩ <;> cases h
            obtain rfl : vh = none := by rcases hh with ⟨_, h⟩ | ⟨_, _, h, _⟩; exact h; cases h
            obtain ⟨c1, c2, c3, c4, c5, c6⟩ := hp.right
            have c6' := c6
            simp only [AllP] at c6'
            exact sec_arr hS hb ht c1 hv c2 c3 c4 (.some 0 c5) (.none _) (by omega) (Nat.le_refl _)
          · obtain rfl : vl = none := by rcases hl with ⟨_, h⟩ | ⟨_, _, h, _⟩; exact h; cases h
            rcases hh with ⟨h, _⟩ | ⟨kh, _, h, rfl⟩ <;> cases h
            obtain ⟨c1, c2, c3, c4, c5, c6⟩ := hp.right
            have c6' := c6
            simp only [AllP] at c6'
            simpa using sec_arr hS hb ht c1 hv c2 c3 c4 (.none 0) (.some _ c5) (Nat.zero_le _) (by omega)
          · rcases hl with ⟨h, _⟩ | ⟨kl, _, h, rfl⟩ <;> cases h
            rcases hh with ⟨h, _⟩ | ⟨kh, _, h, rfl⟩ <;> cases h
            obtain ⟨c1, c2, c3, c4, c5, c6, c7⟩ := hp.right
            have c7' := c7
            simp only [AllP] at c7'
            exact sec_arr hS hb ht c1 hv c2 c3 c4 (.some 0 c5) (.some _ (by omega)) (by omega) (by omega)
        · cases h
      · cases h
    · cases h
  · cases h

end Go.Sx

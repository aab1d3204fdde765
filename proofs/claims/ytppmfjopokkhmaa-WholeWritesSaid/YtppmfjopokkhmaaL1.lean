/-
  Chapter 03's plain law of contents and parse: what the program computes is what the document computes. The conditions: rows of bytes.
-/
import Derived.Test.YtppmfjopokkhmaaW9
namespace Go.Proofs.Ytppmfjopokkhmaa
set_option linter.unusedSimpArgs false
set_option linter.unusedVariables false
open Go.Sx

theorem trim_nz (l : List Int) : trimL l = [] ∨ ∃ x t, trimL l = x :: t ∧ x ≠ 0 := by
  unfold trimL
  induction l with
  | nil => exact .inl rfl
  | cons x l ih =>
    simp only [List.dropWhile_cons]
    split
    · exact ih
    · rename_i h
      exact .inr ⟨x, l, rfl, by simpa using h⟩
theorem trim_idem (l : List Int) : trimL (trimL l) = trimL l := by
  rcases trim_nz l with h | ⟨x, t, h, hx⟩
  · rw [h]; rfl
  · rw [h]; simp [trimL, hx]
theorem made_idem (b : Bool) (l : List Int) : madeB (madeB b l) (trimL l) = madeB b l := by
  simp only [madeB, trim_idem]
  cases b
  · rfl
  · cases decide (0 < ((trimL l).length : Int)) <;> rfl
theorem madeB_ne {b : Bool} {l : List Int} (h : madeB b l = true) : trimL l ≠ [] := by
  intro h'
  cases b
  · simp [madeB] at h
  · simp [madeB, h'] at h

theorem incC_zero : ∀ l : List Int, WfB l → (incC (notL l)).2 = 1 → ∀ x ∈ (incC (notL l)).1, x = 0
  | [], _, _ => fun x hx => by simp [notL, incC] at hx
  | y :: l, hw, h => by
    have hy := hw y (List.mem_cons_self ..)
    have hl : WfB l := fun z hz => hw z (List.mem_cons_of_mem _ hz)
    have h1 := incC_low (notL l) (wf_notL hl)
    have e : notL (y :: l) = (255 - y) :: notL l := rfl
    rw [e] at h ⊢
    simp only [incC] at h ⊢
    have hc : (incC (notL l)).2 = 1 := by omega
    have hy0 : y = 0 := by omega
    intro x hx
    cases hx with
    | head => rw [hc, hy0]; decide
    | tail _ hx => exact incC_zero l hl hc x hx

theorem tc_cons (x : Int) (l : List Int) : tcL (x :: l) = ((255 - x + (incC (notL l)).2) % 256) :: tcL l := rfl
theorem tc_carry {x : Int} {l : List Int} (hx : x ≠ 0) (hw : WfB (x :: l)) : (incC (notL (x :: l))).2 = 0 := by
  have h1 := incC_low (notL l) (wf_notL fun y hy => hw y (List.mem_cons_of_mem _ hy))
  have hx' := hw x (List.mem_cons_self ..)
  show (255 - x + (incC (notL l)).2) / 256 = 0
  omega

/-- The program's contents are the document's. -/
theorem cont_eq (b : Bool) (l : List Int) (hw : WfB l) : stripL (twoL b l) = refcL (madeB b l) (trimL l) := by
  have hws : WfB (trimL l) := wf_trim hw
  have hne := @madeB_ne b l
  rw [twoL]
  generalize hs : trimL l = s at *
  have hnz : s = [] ∨ ∃ x t, s = x :: t ∧ x ≠ 0 := by rw [← hs]; exact trim_nz l
  generalize madeB b l = be at *
  cases be with
  | false =>
    rw [if_neg (by simp)]
    rcases hnz with h | ⟨x, t, h, hx⟩
    · subst h; rfl
    · subst h
      by_cases h128 : x < 128
      · have hx' := hws x (List.mem_cons_self ..)
        have e1 : redB (0 :: x :: t) = true := by simp [redB, h128]
        have e2 : redB (x :: t) = false := by
          cases t with
          | nil => rfl
          | cons y t => simp [redB, hx]; omega
        rw [stripL, if_pos e1, stripL, e2, if_neg (by simp), refcL]
        simp [goodB, hd0, h128]
      · have e1 : redB (0 :: x :: t) = false := by simp [redB, h128]
        rw [stripL, e1, if_neg (by simp), refcL]
        simp [goodB, hd0, h128]
  | true =>
    rw [if_pos rfl]
    rcases hnz with h | ⟨x, t, h, hx⟩
    · exact absurd h (hne rfl)
    · subst h
      have hc := tc_carry hx hws
      have e0 : tcL (0 :: x :: t) = 255 :: tcL (x :: t) := by
        rw [tc_cons, hc]; rfl
      have hwt : WfB t := fun y hy => hws y (List.mem_cons_of_mem _ hy)
      have hx' := hws x (List.mem_cons_self ..)
      have hlow := incC_low (notL t) (wf_notL hwt)
      rw [e0]
      by_cases h128 : 128 ≤ hd0 (tcL (x :: t))
      · have hr : redB (255 :: tcL (x :: t)) = true := by
          rw [tc_cons] at h128 ⊢
          simp [hd0] at h128
          simp [redB, h128]
        have hr2 : redB (tcL (x :: t)) = false := by
          rw [tc_cons] at h128 ⊢
          simp [hd0] at h128
          by_cases h1 : (incC (notL t)).2 = 1
          · have hz := incC_zero t hwt h1
            cases ht : tcL t with
            | nil => rfl
            | cons y u =>
              have hy : y = 0 := hz y (by show y ∈ tcL t; rw [ht]; exact List.mem_cons_self ..)
              subst hy
              rw [h1] at h128 ⊢
              simp [redB]; omega
          · have h0 : (incC (notL t)).2 = 0 := by omega
            rw [h0] at h128 ⊢
            cases tcL t with
            | nil => rfl
            | cons y u =>
              simp only [redB, Bool.or_eq_false_iff, Bool.and_eq_false_iff, beq_eq_false_iff_ne]
              refine ⟨.inl (by omega), .inl (by omega)⟩
        rw [stripL, if_pos hr, refcL]
        have hgood : goodB true (x :: t) = true := by simp [goodB, h128]
        simp only [hgood, ne_eq, reduceCtorEq, not_false_eq_true, and_self, if_true, cond_true]
        rw [tc_cons, stripL]
        rw [← tc_cons, hr2]
        simp
      · have hr : redB (255 :: tcL (x :: t)) = false := by
          rw [tc_cons] at h128 ⊢
          simp [hd0] at h128
          simp [redB]; omega
        rw [stripL, hr, refcL]
        have hgood : goodB true (x :: t) = false := by simp [goodB]; omega
        simp only [hgood, Bool.false_eq_true, and_false, if_false, cond_true]
        rw [e0]

theorem tc_wf (l : List Int) : WfB (tcL l) := by
  unfold tcL
  generalize notL l = m
  induction m with
  | nil => intro x hx; cases hx
  | cons y m ih =>
    intro x hx
    simp only [incC] at hx
    cases hx with
    | head => omega
    | tail _ hx => exact ih x hx
theorem tc_len (l : List Int) : (tcL l).length = l.length := by simp [tcL, len_incC, notL]
theorem tc_two : ∀ l : List Int, WfB l → incC (notL (tcL l)) = (l, (incC (notL l)).2)
  | [], _ => rfl
  | x :: l, hw => by
    have hl : WfB l := fun z hz => hw z (List.mem_cons_of_mem _ hz)
    have h1 := incC_low (notL l) (wf_notL hl)
    have hx := hw x (List.mem_cons_self ..)
    have ih := tc_two l hl
    rw [tc_cons]
    have e : ∀ (y : Int) (l : List Int), notL (y :: l) = (255 - y) :: notL l := fun _ _ => rfl
    rw [e, e]
    simp only [incC, ih]
    simp only [Prod.mk.injEq, List.cons.injEq, and_true]
    generalize (incC (notL l)).2 = c at *
    omega
theorem tc_tc (l : List Int) (hw : WfB l) : tcL (tcL l) = l := by
  show (incC (notL (tcL l))).1 = l
  rw [tc_two l hw]

end Go.Proofs.Ytppmfjopokkhmaa

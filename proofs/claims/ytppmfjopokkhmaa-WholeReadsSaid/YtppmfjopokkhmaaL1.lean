/-
  Chapter 03's plain law of contents and parse: what the program computes is what the document computes. The conditions: rows of bytes.
-/
import Derived.Test.YtppmfjopokkhmaaW9
namespace Go.Proofs.Ytppmfjopokkhmaa
set_option linter.unusedSimpArgs false
set_option linter.unusedVariables false
open Go.Sx


/-- The document's parse. -/
def refParseN (l : List Int) : Bool × List Int × Int :=
  if l = [] then (false, [], 6) else if (64 : Int) < l.length then (false, [], 2) else
    let be := cond (decide (128 ≤ hd0 l)) (madeB true (tcL l)) (madeB false l)
    let s := cond (decide (128 ≤ hd0 l)) (trimL (tcL l)) (trimL l)
    if refcL (madeB be s) (trimL s) = l then (be, s, 0) else (false, [], 6)

theorem trim_nz (l : List Int) : trimL l = [] ∨ ∃ x t, trimL l = x :: t ∧ x ≠ 0 := by
  unfold trimL
  induction l with
  | nil => exact .inl rfl
  | cons x l ih =>
    simp only [List.dropWhile_cons]
    split
    · exact ih
    · rename_i h
      exact .inr ⟨x, l, rfl, by simpa using h⟩
theorem trim_idem (l : List Int) : trimL (trimL l) = trimL l := by
  rcases trim_nz l with h | ⟨x, t, h, hx⟩
  · rw [h]; rfl
  · rw [h]; simp [trimL, hx]
theorem made_idem (b : Bool) (l : List Int) : madeB (madeB b l) (trimL l) = madeB b l := by
  simp only [madeB, trim_idem]
  cases b
  · rfl
  · cases decide (0 < ((trimL l).length : Int)) <;> rfl
theorem madeB_ne {b : Bool} {l : List Int} (h : madeB b l = true) : trimL l ≠ [] := by
  intro h'
  cases b
  · simp [madeB] at h
  · simp [madeB, h'] at h

theorem incC_zero : ∀ l : List Int, WfB l → (incC (notL l)).2 = 1 → ∀ x ∈ (incC (notL l)).1, x = 0
  | [], _, _ => fun x hx => by simp [notL, incC] at hx
  | y :: l, hw, h => by
    have hy := hw y (List.mem_cons_self ..)
    have hl : WfB l := fun z hz => hw z (List.mem_cons_of_mem _ hz)
    have h1 := incC_low (notL l) (wf_notL hl)
    have e : notL (y :: l) = (255 - y) :: notL l := rfl
    rw [e] at h ⊢
    simp only [incC] at h ⊢
    have hc : (incC (notL l)).2 = 1 := by omega
    have hy0 : y = 0 := by omega
    intro x hx
    cases hx with
    | head => rw [hc, hy0]; decide
    | tail _ hx => exact incC_zero l hl hc x hx

theorem tc_cons (x : Int) (l : List Int) : tcL (x :: l) = ((255 - x + (incC (notL l)).2) % 256) :: tcL l := rfl
theorem tc_carry {x : Int} {l : List Int} (hx : x ≠ 0) (hw : WfB (x :: l)) : (incC (notL (x :: l))).2 = 0 := by
  have h1 := incC_low (notL l) (wf_notL fun y hy => hw y (List.mem_cons_of_mem _ hy))
  have hx' := hw x (List.mem_cons_self ..)
  show (255 - x + (incC (notL l)).2) / 256 = 0
  omega

/-- The program's contents are the document's. -/
theorem cont_eq (b : Bool) (l : List Int) (hw : WfB l) : stripL (twoL b l) = refcL (madeB b l) (trimL l) := by
  have hws : WfB (trimL l) := wf_trim hw
  have hne := @madeB_ne b l
  rw [twoL]
  generalize hs : trimL l = s at *
  have hnz : s = [] ∨ ∃ x t, s = x :: t ∧ x ≠ 0 := by rw [← hs]; exact trim_nz l
  generalize madeB b l = be at *
  cases be with
  | false =>
    rw [if_neg (by simp)]
    rcases hnz with h | ⟨x, t, h, hx⟩
    · subst h; rfl
    · subst h
      by_cases h128 : x < 128
      · have hx' := hws x (List.mem_cons_self ..)
        have e1 : redB (0 :: x :: t) = true := by simp [redB, h128]
        have e2 : redB (x :: t) = false := by
          cases t with
          | nil => rfl
          | cons y t => simp [redB, hx]; omega
        rw [stripL, if_pos e1, stripL, e2, if_neg (by simp), refcL]
        simp [goodB, hd0, h128]
      · have e1 : redB (0 :: x :: t) = false := by simp [redB, h128]
        rw [stripL, e1, if_neg (by simp), refcL]
        simp [goodB, hd0, h128]
  | true =>
    rw [if_pos rfl]
    rcases hnz with h | ⟨x, t, h, hx⟩
    · exact absurd h (hne rfl)
    · subst h
      have hc := tc_carry hx hws
      have e0 : tcL (0 :: x :: t) = 255 :: tcL (x :: t) := by
        rw [tc_cons, hc]; rfl
      have hwt : WfB t := fun y hy => hws y (List.mem_cons_of_mem _ hy)
      have hx' := hws x (List.mem_cons_self ..)
      have hlow := incC_low (notL t) (wf_notL hwt)
      rw [e0]
      by_cases h128 : 128 ≤ hd0 (tcL (x :: t))
      · have hr : redB (255 :: tcL (x :: t)) = true := by
          rw [tc_cons] at h128 ⊢
          simp [hd0] at h128
          simp [redB, h128]
        have hr2 : redB (tcL (x :: t)) = false := by
          rw [tc_cons] at h128 ⊢
          simp [hd0] at h128
          by_cases h1 : (incC (notL t)).2 = 1
          · have hz := incC_zero t hwt h1
            cases ht : tcL t with
            | nil => rfl
            | cons y u =>
              have hy : y = 0 := hz y (by show y ∈ tcL t; rw [ht]; exact List.mem_cons_self ..)
              subst hy
              rw [h1] at h128 ⊢
              simp [redB]; omega
          · have h0 : (incC (notL t)).2 = 0 := by omega
            rw [h0] at h128 ⊢
            cases tcL t with
            | nil => rfl
            | cons y u =>
              simp only [redB, Bool.or_eq_false_iff, Bool.and_eq_false_iff, beq_eq_false_iff_ne]
              refine ⟨.inl (by omega), .inl (by omega)⟩
        rw [stripL, if_pos hr, refcL]
        have hgood : goodB true (x :: t) = true := by simp [goodB, h128]
        simp only [hgood, ne_eq, reduceCtorEq, not_false_eq_true, and_self, if_true, cond_true]
        rw [tc_cons, stripL]
        rw [← tc_cons, hr2]
        simp
      · have hr : redB (255 :: tcL (x :: t)) = false := by
          rw [tc_cons] at h128 ⊢
          simp [hd0] at h128
          simp [redB]; omega
        rw [stripL, hr, refcL]
        have hgood : goodB true (x :: t) = false := by simp [goodB]; omega
        simp only [hgood, Bool.false_eq_true, and_false, if_false, cond_true]
        rw [e0]

theorem tc_wf (l : List Int) : WfB (tcL l) := by
  unfold tcL
  generalize notL l = m
  induction m with
  | nil => intro x hx; cases hx
  | cons y m ih =>
    intro x hx
    simp only [incC] at hx
    cases hx with
    | head => omega
    | tail _ hx => exact ih x hx
theorem tc_len (l : List Int) : (tcL l).length = l.length := by simp [tcL, len_incC, notL]
theorem tc_two : ∀ l : List Int, WfB l → incC (notL (tcL l)) = (l, (incC (notL l)).2)
  | [], _ => rfl
  | x :: l, hw => by
    have hl : WfB l := fun z hz => hw z (List.mem_cons_of_mem _ hz)
    have h1 := incC_low (notL l) (wf_notL hl)
    have hx := hw x (List.mem_cons_self ..)
    have ih := tc_two l hl
    rw [tc_cons]
    have e : ∀ (y : Int) (l : List Int), notL (y :: l) = (255 - y) :: notL l := fun _ _ => rfl
    rw [e, e]
    simp only [incC, ih]
    simp only [Prod.mk.injEq, List.cons.injEq, and_true]
    generalize (incC (notL l)).2 = c at *
    omega
theorem tc_tc (l : List Int) (hw : WfB l) : tcL (tcL l) = l := by
  show (incC (notL (tcL l))).1 = l
  rw [tc_two l hw]

theorem strip_red {l : List Int} (h : redB l = true) : stripL l ≠ l := by
  intro e
  cases l with
  | nil => cases h
  | cons x l =>
    rw [stripL, if_pos h] at e
    have := strip_len l
    rw [e] at this
    simp at this
    omega
theorem strip_not {l : List Int} (h : redB l = false) : stripL l = l := by
  cases l with
  | nil => rfl
  | cons x l => rw [stripL, h]; simp

theorem strip_pad : ∀ l : List Int, stripL (0 :: trimL l) = stripL (0 :: l)
  | [] => rfl
  | x :: l => by
    by_cases hx : x = 0
    · subst hx
      have e1 : trimL (0 :: l) = trimL l := by simp [trimL]
      have e2 : stripL (0 :: 0 :: l) = stripL (0 :: l) := by rw [stripL, if_pos (by simp [redB])]
      rw [e1, e2, strip_pad l]
    · have e1 : trimL (x :: l) = x :: l := by simp [trimL, hx]
      rw [e1]
theorem strip_neg : ∀ d : List Int, WfB d → trimL d ≠ [] → stripL (tcL (0 :: trimL d)) = stripL (255 :: tcL d)
  | [], _, h => absurd rfl h
  | x :: d, hw, h => by
    have hd : WfB d := fun z hz => hw z (List.mem_cons_of_mem _ hz)
    by_cases hx : x = 0
    · subst hx
      have e1 : trimL (0 :: d) = trimL d := by simp [trimL]
      rw [e1] at h ⊢
      rw [strip_neg d hd h]
      have hc : (incC (notL d)).2 = 0 := by
        have key : ∀ d : List Int, WfB d → trimL d ≠ [] → (incC (notL d)).2 = 0 := by
          intro d
          induction d with
          | nil => intro _ h; exact absurd rfl h
          | cons y d ih =>
            intro hw h
            have hd : WfB d := fun z hz => hw z (List.mem_cons_of_mem _ hz)
            have hy := hw y (List.mem_cons_self ..)
            have h1 := incC_low (notL d) (wf_notL hd)
            show (255 - y + (incC (notL d)).2) / 256 = 0
            by_cases hy0 : y = 0
            · subst hy0
              rw [ih hd (by simpa [trimL] using h)]
              decide
            · omega
        exact key d hd h
      have e2 : tcL (0 :: d) = 255 :: tcL d := by rw [tc_cons, hc]; rfl
      rw [e2]
      have : stripL (255 :: 255 :: tcL d) = stripL (255 :: tcL d) := by
        rw [stripL, if_pos (by simp [redB])]
      rw [this]
    · have e1 : trimL (x :: d) = x :: d := by simp [trimL, hx]
      rw [e1, tc_cons 0 (x :: d), tc_carry hx hw]
      rfl

theorem parse_eq (l : List Int) (hw : WfB l) : refParseN l = parseN l := by
  unfold refParseN parseN
  by_cases h1 : l = []
  · rw [if_pos h1, if_pos h1]
  rw [if_neg h1, if_neg h1]
  by_cases h2 : (64 : Int) < l.length
  · rw [if_pos h2, if_pos h2]
  rw [if_neg h2, if_neg h2]
  cases l with
  | nil => exact absurd rfl h1
  | cons x t =>
  have key : ∀ (be : Bool) (s : List Int), WfB s → madeB be s = be → trimL s = s → stripL (twoL be s) = stripL (x :: t) →
      (if refcL (madeB be s) (trimL s) = x :: t then (be, s, (0 : Int)) else (false, [], 6)) = if redB (x :: t) = true then (false, [], 6) else (be, s, 0) := by
    intro be s hs e1 e2 e3
    rw [← cont_eq be s hs, e3]
    cases hr : redB (x :: t) with
    | true => rw [if_neg (strip_red hr), if_pos rfl]
    | false => rw [if_pos (strip_not hr), if_neg (by simp)]
  have hx := hw x (List.mem_cons_self ..)
  by_cases h3 : 128 ≤ x
  · have e3 : (128 : Int) ≤ (x :: t).getD 0 0 := h3
    have e4 : decide (128 ≤ hd0 (x :: t)) = true := by simpa [hd0] using h3
    simp only [e4, cond_true, if_pos e3]
    have hne : trimL (tcL (x :: t)) ≠ [] := by
      intro h
      have hz : ∀ y ∈ tcL (x :: t), y = 0 := by
        have : ∀ m : List Int, trimL m = [] → ∀ y ∈ m, y = 0 := by
          intro m hm y hy
          induction m with
          | nil => cases hy
          | cons z m ih =>
            by_cases hz : z = 0
            · subst hz
              cases hy with
              | head => rfl
              | tail _ hy => exact ih (by simpa [trimL] using hm) hy
            · simp [trimL, hz] at hm
        exact this _ h
      have e5 := tc_two _ hw
      have h7 : ∀ m : List Int, (∀ y ∈ m, y = 0) → (incC (notL m)).2 = 1 := by
        intro m hm
        induction m with
        | nil => rfl
        | cons z m ih =>
          show (255 - z + (incC (notL m)).2) / 256 = 1
          rw [ih fun y hy => hm y (List.mem_cons_of_mem _ hy), hm z (List.mem_cons_self ..)]
          decide
      have h8 := h7 _ hz
      rw [e5] at h8
      have h9 := tc_carry (show x ≠ 0 by omega) hw
      have h10 : (incC (notL (x :: t))).2 = 1 := h8
      omega
    have hb : madeB true (tcL (x :: t)) = true := by
      have : 0 < (trimL (tcL (x :: t))).length := List.length_pos_iff.2 hne
      simp only [madeB, cond_true, decide_eq_true_eq]
      omega
    rw [key _ _ (wf_trim (tc_wf _)) (made_idem _ _) (trim_idem _) ?_]
    rw [twoL, made_idem, hb, if_pos rfl, trim_idem, strip_neg _ (tc_wf _) hne, tc_tc _ hw]
    rw [stripL, if_pos (by simp [redB, h3])]
  · have e3 : ¬ (128 : Int) ≤ (x :: t).getD 0 0 := h3
    have e4 : decide (128 ≤ hd0 (x :: t)) = false := by simpa [hd0] using h3
    simp only [e4, cond_false, if_neg e3]
    rw [key _ _ (wf_trim hw) (made_idem _ _) (trim_idem _) ?_]
    rw [twoL, made_idem]
    have : madeB false (x :: t) = false := rfl
    rw [this, if_neg (by simp), trim_idem, strip_pad]
    rw [stripL, if_pos (by simp [redB]; omega)]
end Go.Proofs.Ytppmfjopokkhmaa

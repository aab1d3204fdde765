/-
  The layer: a nil slice in a typed cell as a row of the call's own. No condition.
-/
import Derived.Test.YthalijmfhllgbaaD11
import Derived.Test.YthalijmfhllgbaaSxT
namespace Go.Proofs.Ythalijmfhllgbaa
set_option linter.unusedSimpArgs false
set_option linter.unusedVariables false
open Go.Sx Dt

set_option maxRecDepth 10000

theorem rd2_cons {x y : Int} (t : List Int) (hx : isDig x = true) (hy : isDig y = true) (b : Bool) : rd2 (x :: y :: t) b = (10 * (x - 48) + (y - 48), t, b) := by
  have hg : good2 (x :: y :: t) = true := by
    unfold good2
    simp only [List.getD_cons_zero, List.getD_cons_succ, hx, hy, Bool.and_true, decide_eq_true_eq, List.length_cons]
    omega
  rw [rd2, hg]
  rfl
theorem rd2_inv {r : List Int} {b : Bool} {v : Int} {r' : List Int} (h : rd2 r b = (v, r', false)) : b = false ∧ ∃ x y, isDig x = true ∧ isDig y = true ∧ r = x :: y :: r' := by
  unfold rd2 at h
  split at h
  · rename_i hg
    simp only [Prod.mk.injEq] at h
    obtain ⟨_, h2, h3⟩ := h
    unfold good2 at hg
    match r, hg, h2 with
    | x :: y :: t, hg, h2 =>
      simp only [List.getD_cons_zero, List.getD_cons_succ, Bool.and_eq_true] at hg
      exact ⟨h3, x, y, hg.1.2, hg.2, by rw [← h2]; rfl⟩
    | [_], hg, _ => simp at hg
    | [], hg, _ => simp at hg
  · simp at h
theorem end_inv {r : List Int} {b : Bool} (h : endB r b = false) : b = false ∧ r = [90] := by
  unfold endB at h
  match r, h with
  | [x], h =>
    simp at h
    obtain ⟨h1, h2⟩ := h
    exact ⟨h1, by rw [h2]⟩
  | [], h => simp at h
  | _ :: _ :: _, h => simp at h
/-- So many digits. -/
def digsB (l : List Int) : Bool := l.all isDig
/-- The bytes of a time: so many digits and a Z. -/
def form10 (n : Nat) (l : List Int) : Prop := ∃ D : List Int, l = D ++ [90] ∧ D.length = n + 10 ∧ digsB D = true
theorem red_inv24 {l : List Int} (h : (redP 24 l).bad = false) : form10 4 l := by
  unfold redP yr10 at h
  simp only [if_true] at h
  generalize hT1 : rd2 l false = T at h
  obtain ⟨v1, r1, b1⟩ := T
  dsimp only at h
  generalize hT2 : rd2 r1 b1 = T at h
  obtain ⟨v2, r2, b2⟩ := T
  dsimp only at h
  generalize hT3 : rd2 r2 b2 = T at h
  obtain ⟨v3, r3, b3⟩ := T
  dsimp only at h
  generalize hT4 : rd2 r3 b3 = T at h
  obtain ⟨v4, r4, b4⟩ := T
  dsimp only at h
  generalize hT5 : rd2 r4 b4 = T at h
  obtain ⟨v5, r5, b5⟩ := T
  dsimp only at h
  generalize hT6 : rd2 r5 b5 = T at h
  obtain ⟨v6, r6, b6⟩ := T
  dsimp only at h
  generalize hT7 : rd2 r6 b6 = T at h
  obtain ⟨v7, r7, b7⟩ := T
  dsimp only at h
  obtain ⟨rfl, rfl⟩ := end_inv h
  obtain ⟨rfl, x12, x13, q12, q13, rfl⟩ := rd2_inv hT7
  obtain ⟨rfl, x10, x11, q10, q11, rfl⟩ := rd2_inv hT6
  obtain ⟨rfl, x8, x9, q8, q9, rfl⟩ := rd2_inv hT5
  obtain ⟨rfl, x6, x7, q6, q7, rfl⟩ := rd2_inv hT4
  obtain ⟨rfl, x4, x5, q4, q5, rfl⟩ := rd2_inv hT3
  obtain ⟨rfl, x2, x3, q2, q3, rfl⟩ := rd2_inv hT2
  obtain ⟨_, x0, x1, q0, q1, rfl⟩ := rd2_inv hT1
  exact ⟨[x0, x1, x2, x3, x4, x5, x6, x7, x8, x9, x10, x11, x12, x13], rfl, rfl, by simp [digsB, *]⟩
theorem red_inv23 {l : List Int} (h : (redP 23 l).bad = false) : form10 2 l := by
  have e : (yr10 23 l false).2 = (rd2 l false).2 := rfl
  unfold redP at h
  dsimp only at h
  rw [e] at h
  generalize hT1 : rd2 l false = T at h
  obtain ⟨v1, r1, b1⟩ := T
  dsimp only at h
  generalize hT3 : rd2 r1 b1 = T at h
  obtain ⟨v3, r3, b3⟩ := T
  dsimp only at h
  generalize hT4 : rd2 r3 b3 = T at h
  obtain ⟨v4, r4, b4⟩ := T
  dsimp only at h
  generalize hT5 : rd2 r4 b4 = T at h
  obtain ⟨v5, r5, b5⟩ := T
  dsimp only at h
  generalize hT6 : rd2 r5 b5 = T at h
  obtain ⟨v6, r6, b6⟩ := T
  dsimp only at h
  generalize hT7 : rd2 r6 b6 = T at h
  obtain ⟨v7, r7, b7⟩ := T
  dsimp only at h
  obtain ⟨rfl, rfl⟩ := end_inv h
  obtain ⟨rfl, x12, x13, q12, q13, rfl⟩ := rd2_inv hT7
  obtain ⟨rfl, x10, x11, q10, q11, rfl⟩ := rd2_inv hT6
  obtain ⟨rfl, x8, x9, q8, q9, rfl⟩ := rd2_inv hT5
  obtain ⟨rfl, x6, x7, q6, q7, rfl⟩ := rd2_inv hT4
  obtain ⟨rfl, x4, x5, q4, q5, rfl⟩ := rd2_inv hT3
  obtain ⟨_, x0, x1, q0, q1, rfl⟩ := rd2_inv hT1
  exact ⟨[x0, x1, x4, x5, x6, x7, x8, x9, x10, x11, x12, x13], rfl, rfl, by simp [digsB, *]⟩
theorem digA_neg {l : List Int} : ∀ {n p : Nat} {k : Int}, digA l p n k ≠ -1 → ∀ i, i < n → p + i < l.length ∧ isDig (l.getD (p + i) 0) = true
  | n + 1, p, k, h, i, hi => by
    unfold digA at h
    split at h
    · rename_i hc
      match i, hi with
      | 0, _ => exact hc
      | i + 1, hi =>
        have := digA_neg h i (by omega)
        rwa [show p + 1 + i = p + (i + 1) by omega] at this
    · exact absurd rfl h
theorem dig2A {l : List Int} {p : Nat} (h0 : p < l.length ∧ isDig (l.getD p 0) = true) (h1 : p + 1 < l.length ∧ isDig (l.getD (p + 1) 0) = true) : digA l p 2 0 = 10 * (l.getD p 0 - 48) + (l.getD (p + 1) 0 - 48) := by
  unfold digA
  rw [if_pos h0]
  unfold digA
  rw [if_pos h1]
  unfold digA
  omega
theorem rred_inv {n : Nat} {k : Int} {l : List Int} (hn : n = 4 ∧ k = 24 ∨ n = 2 ∧ k = 23) (h : redOk (rredP n k l) = true) : form10 n l := by
  unfold redOk rredP at h
  simp only [Bool.not_not, Bool.and_eq_true, decide_eq_true_eq, beq_iff_eq] at h
  obtain ⟨⟨hlen, hz⟩, hr⟩ := h
  simp only [rightC, rightD, Bool.and_eq_true, decide_eq_true_eq] at hr
  have hm := days_pos (y := yfix k (digA l 0 n 0)) (m := digA l n 2 0) (by omega)
  have hy : digA l 0 n 0 ≠ -1 := by
    intro e
    rw [e] at hr
    have : yfix k (-1) = -1 := by unfold yfix; split <;> rfl
    omega
  have g0 := digA_neg hy
  have g1 := digA_neg (l := l) (p := n) (n := 2) (k := 0) (by omega)
  have g2 := digA_neg (l := l) (p := n + 2) (n := 2) (k := 0) (by omega)
  have g3 := digA_neg (l := l) (p := n + 4) (n := 2) (k := 0) (by omega)
  have g4 := digA_neg (l := l) (p := n + 6) (n := 2) (k := 0) (by omega)
  have g5 := digA_neg (l := l) (p := n + 8) (n := 2) (k := 0) (by omega)
  have hall : ∀ j, j < n + 10 → isDig (l.getD j 0) = true := by
    intro j hj
    have hcase : j < n ∨ (∃ i, i < 2 ∧ j = n + i) ∨ (∃ i, i < 2 ∧ j = n + 2 + i) ∨ (∃ i, i < 2 ∧ j = n + 4 + i) ∨ (∃ i, i < 2 ∧ j = n + 6 + i) ∨ (∃ i, i < 2 ∧ j = n + 8 + i) := by
      rcases Nat.lt_or_ge j n with h | h
      · exact .inl h
      · have h2 : j = n + (j - n) := by omega
        rcases Nat.lt_or_ge (j - n) 2 with h3 | h3
        · exact .inr (.inl ⟨j - n, h3, h2⟩)
        rcases Nat.lt_or_ge (j - n) 4 with h3 | h3
        · exact .inr (.inr (.inl ⟨j - n - 2, by omega, by omega⟩))
        rcases Nat.lt_or_ge (j - n) 6 with h3 | h3
        · exact .inr (.inr (.inr (.inl ⟨j - n - 4, by omega, by omega⟩)))
        rcases Nat.lt_or_ge (j - n) 8 with h3 | h3
        · exact .inr (.inr (.inr (.inr (.inl ⟨j - n - 6, by omega, by omega⟩))))
        · exact .inr (.inr (.inr (.inr (.inr ⟨j - n - 8, by omega, by omega⟩))))
    rcases hcase with h | ⟨i, hi, rfl⟩ | ⟨i, hi, rfl⟩ | ⟨i, hi, rfl⟩ | ⟨i, hi, rfl⟩ | ⟨i, hi, rfl⟩
    · have := (g0 j h).2
      rwa [Nat.zero_add] at this
    · exact (g1 i hi).2
    · exact (g2 i hi).2
    · exact (g3 i hi).2
    · exact (g4 i hi).2
    · exact (g5 i hi).2
  refine ⟨l.take (n + 10), ?_, by simp; omega, ?_⟩
  · have h1 : l = l.take (n + 10) ++ l.drop (n + 10) := (List.take_append_drop ..).symm
    have h2 : l.drop (n + 10) = [90] := by
      rw [List.drop_eq_getElem_cons (by omega), List.drop_of_length_le (by omega)]
      rw [List.getD_eq_getElem?_getD, List.getElem?_eq_getElem (by omega)] at hz
      rw [show l[n + 10] = 90 from hz]
    rw [h2] at h1
    exact h1
  · rw [digsB, List.all_eq_true]
    intro x hx
    obtain ⟨j, hj, rfl⟩ := List.mem_iff_getElem.1 hx
    have hj2 : j < n + 10 := by simp at hj; omega
    have := hall j hj2
    rw [List.getD_eq_getElem?_getD, List.getElem?_eq_getElem (by omega)] at this
    simpa using this
end Go.Proofs.Ythalijmfhllgbaa

namespace Go.Proofs.Ythalijmfhllgbaa
set_option linter.unusedSimpArgs false
set_option linter.unusedVariables false
open Go.Sx Dt

set_option maxRecDepth 10000

theorem cons_len {D : List Int} {n : Nat} (h : D.length = n + 1) : ∃ x t, D = x :: t ∧ t.length = n := by
  match D, h with
  | x :: t, h => exact ⟨x, t, rfl, by simpa using h⟩
theorem dig4A {l : List Int} {p : Nat} (h0 : p < l.length ∧ isDig (l.getD p 0) = true) (h1 : p + 1 < l.length ∧ isDig (l.getD (p + 1) 0) = true) (h2 : p + 1 + 1 < l.length ∧ isDig (l.getD (p + 1 + 1) 0) = true) (h3 : p + 1 + 1 + 1 < l.length ∧ isDig (l.getD (p + 1 + 1 + 1) 0) = true) :
    digA l p 4 0 = 100 * (10 * (l.getD p 0 - 48) + (l.getD (p + 1) 0 - 48)) + (10 * (l.getD (p + 1 + 1) 0 - 48) + (l.getD (p + 1 + 1 + 1) 0 - 48)) := by
  unfold digA
  rw [if_pos h0]
  unfold digA
  rw [if_pos h1]
  unfold digA
  rw [if_pos h2]
  unfold digA
  rw [if_pos h3]
  unfold digA
  omega
theorem red_eq24 {l : List Int} (h : form10 4 l) : redP 24 l = rredP 4 24 l ∧ (redP 24 l).bad = false := by
  obtain ⟨D, rfl, hl, hd⟩ := h
  obtain ⟨x0, D0, e, l0⟩ := cons_len hl
  subst e
  obtain ⟨x1, D1, e, l1⟩ := cons_len l0
  subst e
  obtain ⟨x2, D2, e, l2⟩ := cons_len l1
  subst e
  obtain ⟨x3, D3, e, l3⟩ := cons_len l2
  subst e
  obtain ⟨x4, D4, e, l4⟩ := cons_len l3
  subst e
  obtain ⟨x5, D5, e, l5⟩ := cons_len l4
  subst e
  obtain ⟨x6, D6, e, l6⟩ := cons_len l5
  subst e
  obtain ⟨x7, D7, e, l7⟩ := cons_len l6
  subst e
  obtain ⟨x8, D8, e, l8⟩ := cons_len l7
  subst e
  obtain ⟨x9, D9, e, l9⟩ := cons_len l8
  subst e
  obtain ⟨x10, D10, e, l10⟩ := cons_len l9
  subst e
  obtain ⟨x11, D11, e, l11⟩ := cons_len l10
  subst e
  obtain ⟨x12, D12, e, l12⟩ := cons_len l11
  subst e
  obtain ⟨x13, D13, e, l13⟩ := cons_len l12
  subst e
  have e : D13 = [] := List.eq_nil_of_length_eq_zero l13
  subst e
  simp only [digsB, List.all_cons, List.all_nil, Bool.and_true, Bool.and_eq_true] at hd
  obtain ⟨q0, q1, q2, q3, q4, q5, q6, q7, q8, q9, q10, q11, q12, q13⟩ := hd
  have hz : endB [90] false = false := by decide
  have e1 : redP 24 ([x0, x1, x2, x3, x4, x5, x6, x7, x8, x9, x10, x11, x12, x13] ++ [90]) = ⟨100 * (10 * (x0 - 48) + (x1 - 48)) + (10 * (x2 - 48) + (x3 - 48)), 10 * (x4 - 48) + (x5 - 48), 10 * (x6 - 48) + (x7 - 48), 10 * (x8 - 48) + (x9 - 48), 10 * (x10 - 48) + (x11 - 48), 10 * (x12 - 48) + (x13 - 48), false⟩ := by
    simp only [redP, yr10, if_true, List.cons_append, List.nil_append, rd2_cons _ q0 q1, rd2_cons _ q2 q3, rd2_cons _ q4 q5, rd2_cons _ q6 q7, rd2_cons _ q8 q9, rd2_cons _ q10 q11, rd2_cons _ q12 q13, hz]
  have e2 : rredP 4 24 ([x0, x1, x2, x3, x4, x5, x6, x7, x8, x9, x10, x11, x12, x13] ++ [90]) = ⟨100 * (10 * (x0 - 48) + (x1 - 48)) + (10 * (x2 - 48) + (x3 - 48)), 10 * (x4 - 48) + (x5 - 48), 10 * (x6 - 48) + (x7 - 48), 10 * (x8 - 48) + (x9 - 48), 10 * (x10 - 48) + (x11 - 48), 10 * (x12 - 48) + (x13 - 48), false⟩ := by
    unfold rredP
    generalize hL : [x0, x1, x2, x3, x4, x5, x6, x7, x8, x9, x10, x11, x12, x13] ++ [90] = L
    have hlen : L.length = 15 := by rw [← hL]; rfl
    have d0 : digA L 0 4 0 = _ := dig4A (by rw [← hL]; exact ⟨by simp, q0⟩) (by rw [← hL]; exact ⟨by simp, q1⟩) (by rw [← hL]; exact ⟨by simp, q2⟩) (by rw [← hL]; exact ⟨by simp, q3⟩)
    have d1 : digA L 4 2 0 = _ := dig2A (by rw [← hL]; exact ⟨by simp, q4⟩) (by rw [← hL]; exact ⟨by simp, q5⟩)
    have d2 : digA L (4 + 2) 2 0 = _ := dig2A (by rw [← hL]; exact ⟨by simp, q6⟩) (by rw [← hL]; exact ⟨by simp, q7⟩)
    have d3 : digA L (4 + 4) 2 0 = _ := dig2A (by rw [← hL]; exact ⟨by simp, q8⟩) (by rw [← hL]; exact ⟨by simp, q9⟩)
    have d4 : digA L (4 + 6) 2 0 = _ := dig2A (by rw [← hL]; exact ⟨by simp, q10⟩) (by rw [← hL]; exact ⟨by simp, q11⟩)
    have d5 : digA L (4 + 8) 2 0 = _ := dig2A (by rw [← hL]; exact ⟨by simp, q12⟩) (by rw [← hL]; exact ⟨by simp, q13⟩)
    rw [d0, d1, d2, d3, d4, d5, hlen]
    have hzz : L.getD (4 + 10) 0 = 90 := by rw [← hL]; rfl
    rw [hzz, ← hL]
    rfl
  exact ⟨e1.trans e2.symm, by rw [e1]⟩
theorem red_eq23 {l : List Int} (h : form10 2 l) : redP 23 l = rredP 2 23 l ∧ (redP 23 l).bad = false := by
  obtain ⟨D, rfl, hl, hd⟩ := h
  obtain ⟨x0, D0, e, l0⟩ := cons_len hl
  subst e
  obtain ⟨x1, D1, e, l1⟩ := cons_len l0
  subst e
  obtain ⟨x4, D4, e, l4⟩ := cons_len l1
  subst e
  obtain ⟨x5, D5, e, l5⟩ := cons_len l4
  subst e
  obtain ⟨x6, D6, e, l6⟩ := cons_len l5
  subst e
  obtain ⟨x7, D7, e, l7⟩ := cons_len l6
  subst e
  obtain ⟨x8, D8, e, l8⟩ := cons_len l7
  subst e
  obtain ⟨x9, D9, e, l9⟩ := cons_len l8
  subst e
  obtain ⟨x10, D10, e, l10⟩ := cons_len l9
  subst e
  obtain ⟨x11, D11, e, l11⟩ := cons_len l10
  subst e
  obtain ⟨x12, D12, e, l12⟩ := cons_len l11
  subst e
  obtain ⟨x13, D13, e, l13⟩ := cons_len l12
  subst e
  have e : D13 = [] := List.eq_nil_of_length_eq_zero l13
  subst e
  simp only [digsB, List.all_cons, List.all_nil, Bool.and_true, Bool.and_eq_true] at hd
  obtain ⟨q0, q1, q4, q5, q6, q7, q8, q9, q10, q11, q12, q13⟩ := hd
  have hz : endB [90] false = false := by decide
  have e1 : redP 23 ([x0, x1, x4, x5, x6, x7, x8, x9, x10, x11, x12, x13] ++ [90]) = ⟨if 50 ≤ 10 * (x0 - 48) + (x1 - 48) then 1900 + (10 * (x0 - 48) + (x1 - 48)) else 2000 + (10 * (x0 - 48) + (x1 - 48)), 10 * (x4 - 48) + (x5 - 48), 10 * (x6 - 48) + (x7 - 48), 10 * (x8 - 48) + (x9 - 48), 10 * (x10 - 48) + (x11 - 48), 10 * (x12 - 48) + (x13 - 48), false⟩ := by
    have hk : ¬ (23 : Int) = 24 := by decide
    simp only [redP, yr10, if_neg hk, List.cons_append, List.nil_append, rd2_cons _ q0 q1, rd2_cons _ q4 q5, rd2_cons _ q6 q7, rd2_cons _ q8 q9, rd2_cons _ q10 q11, rd2_cons _ q12 q13, hz]
  have e2 : rredP 2 23 ([x0, x1, x4, x5, x6, x7, x8, x9, x10, x11, x12, x13] ++ [90]) = ⟨if 50 ≤ 10 * (x0 - 48) + (x1 - 48) then 1900 + (10 * (x0 - 48) + (x1 - 48)) else 2000 + (10 * (x0 - 48) + (x1 - 48)), 10 * (x4 - 48) + (x5 - 48), 10 * (x6 - 48) + (x7 - 48), 10 * (x8 - 48) + (x9 - 48), 10 * (x10 - 48) + (x11 - 48), 10 * (x12 - 48) + (x13 - 48), false⟩ := by
    unfold rredP
    generalize hL : [x0, x1, x4, x5, x6, x7, x8, x9, x10, x11, x12, x13] ++ [90] = L
    have hlen : L.length = 13 := by rw [← hL]; rfl
    have d0 : digA L 0 2 0 = _ := dig2A (by rw [← hL]; exact ⟨by simp, q0⟩) (by rw [← hL]; exact ⟨by simp, q1⟩)
    have d1 : digA L 2 2 0 = _ := dig2A (by rw [← hL]; exact ⟨by simp, q4⟩) (by rw [← hL]; exact ⟨by simp, q5⟩)
    have d2 : digA L (2 + 2) 2 0 = _ := dig2A (by rw [← hL]; exact ⟨by simp, q6⟩) (by rw [← hL]; exact ⟨by simp, q7⟩)
    have d3 : digA L (2 + 4) 2 0 = _ := dig2A (by rw [← hL]; exact ⟨by simp, q8⟩) (by rw [← hL]; exact ⟨by simp, q9⟩)
    have d4 : digA L (2 + 6) 2 0 = _ := dig2A (by rw [← hL]; exact ⟨by simp, q10⟩) (by rw [← hL]; exact ⟨by simp, q11⟩)
    have d5 : digA L (2 + 8) 2 0 = _ := dig2A (by rw [← hL]; exact ⟨by simp, q12⟩) (by rw [← hL]; exact ⟨by simp, q13⟩)
    rw [d0, d1, d2, d3, d4, d5, hlen]
    have hzz : L.getD (2 + 10) 0 = 90 := by rw [← hL]; rfl
    rw [hzz, ← hL]
    have hy : yfix 23 (10 * (x0 - 48) + (x1 - 48)) = if 50 ≤ 10 * (x0 - 48) + (x1 - 48) then 1900 + (10 * (x0 - 48) + (x1 - 48)) else 2000 + (10 * (x0 - 48) + (x1 - 48)) := by
      simp only [isDig, Bool.and_eq_true, decide_eq_true_eq] at q0 q1
      unfold yfix
      rw [if_pos rfl, if_pos (by omega)]
      by_cases h : 50 ≤ 10 * (x0 - 48) + (x1 - 48)
      · rw [if_pos h, if_neg (by omega)]; omega
      · rw [if_neg h, if_pos (by omega)]; omega
    show Red.mk (yfix 23 (10 * (x0 - 48) + (x1 - 48))) _ _ _ _ _ _ = _
    rw [hy]
    rfl
  exact ⟨e1.trans e2.symm, by rw [e1]⟩
theorem parse_same (k : Int) (l : List Int) : parse10 k l = rparse10 k l := by
  unfold parse10 rparse10
  by_cases h23 : k = 23
  · subst h23
    rw [if_pos rfl]
    rw [show knownB 23 = true from rfl, cond_true]
    by_cases hf : form10 2 l
    · rw [(red_eq23 hf).1]
    · have h1 : redOk (redP 23 l) = false := by
        rw [Bool.eq_false_iff]
        intro h
        simp only [redOk, Bool.and_eq_true, Bool.not_eq_true'] at h
        exact hf (red_inv23 h.1)
      have h2 : redOk (rredP 2 23 l) = false := by
        rw [Bool.eq_false_iff]
        exact fun h => hf (rred_inv (.inr ⟨rfl, rfl⟩) h)
      rw [h1, h2]
      rfl
  · rw [if_neg h23]
    by_cases h24 : k = 24
    · subst h24
      rw [if_pos rfl]
      rw [show knownB 24 = true from rfl, cond_true]
      by_cases hf : form10 4 l
      · rw [(red_eq24 hf).1]
      · have h1 : redOk (redP 24 l) = false := by
          rw [Bool.eq_false_iff]
          intro h
          simp only [redOk, Bool.and_eq_true, Bool.not_eq_true'] at h
          exact hf (red_inv24 h.1)
        have h2 : redOk (rredP 4 24 l) = false := by
          rw [Bool.eq_false_iff]
          exact fun h => hf (rred_inv (.inl ⟨rfl, rfl⟩) h)
        rw [h1, h2]
        rfl
    · rw [if_neg h24]
      have : knownB k = false := by simp [knownB, h23, h24]
      rw [this]
      rfl
end Go.Proofs.Ythalijmfhllgbaa

namespace Go.Sx
open Go
set_option linter.unusedVariables false
set_option linter.unusedSimpArgs false
section
variable {P : Program} {E : Env} {ops : Array Oper} {o : Oper} {σ : St}
/-- A nil slice in a cell: an empty row of the call's own, of a type that is known. -/
theorem SR.cell_nilT (e5 : TypeId) {a : Act} {w : World} (j i K : Nat) {cs cs' : List Cell} (hj : σ.hp j = .cells cs) (hi : cs[i]? = some (.lf (.v (.slice none 0 0)))) (hK : Nat.ble 64 K = true) (hne : Nat.beq j K = false) (hcs : ((cs.map (Cell.kill K)).set i (.town K 0 0 e5)) = cs') (h : SR E σ a w) :
    SR E (((σ.kill K).seth K (.row (.ints .u8 []))).seth j (.cells cs')) a w := by
  subst hcs
  have hjK : j ≠ K := by intro e; subst e; simp at hne
  obtain ⟨β, F, h⟩ := h
  have hK64 : 64 ≤ K := by simpa using hK
  have hk := h.kill K (by have := h.nbl; omega)
  have hB := hk.hp j
  have hjk : (σ.kill K).hp j = .cells (cs.map (Cell.kill K)) := by simp [St.kill, hjK, hj, Blk.kill]
  rw [hjk] at hB
  obtain ⟨g, cur, e1, e2, e3, e4⟩ := hB
  have h2 : SRb E (fun i => if i = K then none else β i) F ((σ.kill K).seth K (.row (.ints .u8 []))) a w := by
    refine ⟨hk.tm, hk.sz, hk.df, fun i => ?_, fun i l g h1 h2 e1 e2 => ?_, fun i g h1 e => ?_, hk.lt, hk.fr, hk.keep, hk.bb, hk.nbl⟩
    · by_cases e : i = K
      · subst e
        simp only [St.seth, if_true]
        exact .inl ⟨rfl, fun g hg => by simp at hg⟩
      · simpa [St.seth, e] using hk.hp i
    · by_cases ek : i = K
      · subst ek; simp at e1
      · by_cases el : l = K
        · subst el; simp at e2
        · exact hk.inj i l g (by simpa [St.seth, ek] using h1) (by simpa [St.seth, el] using h2) e1 e2
    · by_cases ek : i = K
      · subst ek; simp at e
      · exact hk.own i g (by simpa [St.seth, ek] using h1) e
  refine ⟨_, F, h2.setBlk (j := j) (by simp [St.seth, hjK, hjk]) ⟨g, cur, e1, e2, by simpa using e3, fun m x v hx hv => ?_⟩⟩
  rw [List.getElem?_set] at hx
  split at hx
  · rename_i him
    subst him
    split at hx
    · simp only [Option.some.injEq] at hx
      subst hx
      have h5 : (cs.map (Cell.kill K))[i]? = some (.lf (.v (.slice none 0 0))) := by rw [List.getElem?_map, hi]; rfl
      have := e4 i _ v h5 hv
      cases this with | lf h => cases h with | v _ _ => exact .town _ _ _ _ _ _ (Nat.le_refl _) (by decide) (.inl rfl)
    · cases hx
  · exact e4 m x v hx hv

end
end Go.Sx

/-
  Dates: which are right, their numbers, the program's and the document's. The conditions: none but those of the calendar.
-/
import Derived.Test.YthalijmfhllgbaaD1
namespace Go.Proofs.Ythalijmfhllgbaa
set_option linter.unusedSimpArgs false
set_option linter.unusedVariables false
open Go.Sx Dt

set_option maxRecDepth 10000

theorem plong_ok (y : Int) (hy : 0 ≤ y ∧ y ≤ 10000) : Ct Try.prog 205 [lv (.int .i64 y)] [] (lv (.bool (longB y))) [] [] := by
  refine Ct_intro Try.func205 rfl rfl rfl rfl rfl (fun E hn hb => ?_)
  repeat (first | refine stp ?_ | refine N_block_pass rfl ?_ | refine sp1 ?_ | refine sg1 ?_ | refine WL_nil ?_)
  refine rt2 [] ?_ ?_
  · refine congrArg (fun x => lv (.bool x)) ?_
    rw [longB, Bool.eq_iff_iff]
    simp [Bool.cond_eq_ite]
  · trivial
theorem rlong_ok (y : Int) (hy : 0 ≤ y ∧ y ≤ 10000) : Ct Try.prog 190 [lv (.int .i64 y)] [] (lv (.bool (longB y))) [] [] := by
  refine Ct_intro Try.func190 rfl rfl rfl rfl rfl (fun E hn hb => ?_)
  repeat (first | refine stp ?_ | refine N_block_pass rfl ?_ | refine sp1 ?_ | refine sg1 ?_ | refine WL_nil ?_)
  refine W_cond rfl (by simp) (fun h => ?_) (fun h => ?_)
  · have h4 : longB y = true := by simp at h; simp [longB, h]
    rw [h4]
    repeat (first | refine stp ?_ | refine N_block_pass rfl ?_ | refine sp1 ?_ | refine sg1 ?_ | refine WL_nil ?_)
    exact rt1 []
  repeat (first | refine stp ?_ | refine N_block_pass rfl ?_ | refine sp1 ?_ | refine sg1 ?_ | refine WL_nil ?_)
  refine W_cond rfl (by simp) (fun h2 => ?_) (fun h2 => ?_)
  · have h4 : longB y = false := by simp at h h2; simp [longB, h, h2]
    rw [h4]
    repeat (first | refine stp ?_ | refine N_block_pass rfl ?_ | refine sp1 ?_ | refine sg1 ?_ | refine WL_nil ?_)
    exact rt1 []
  repeat (first | refine stp ?_ | refine N_block_pass rfl ?_ | refine sp1 ?_ | refine sg1 ?_ | refine WL_nil ?_)
  refine rt2 [] ?_ ?_
  · have h4 : longB y = (y % 4 == 0) := by
      rw [longB, show (y % 100 != 0) = true by simpa using h2, h]
      simp
    rw [h4]
    rfl
  · trivial
theorem ryear_ok (y : Int) (hy : 0 ≤ y ∧ y ≤ 10000) : Ct Try.prog 173 [lv (.int .i64 y)] [] (lv (.int .i64 (365 + lp y))) [] [] := by
  have h := rlong_ok y hy
  unfold lp
  generalize longB y = b at *
  refine Ct_intro Try.func173 rfl rfl rfl rfl rfl (fun E hn hb => ?_)
  repeat (first | refine stp ?_ | refine N_block_pass rfl ?_ | refine sp1 ?_ | refine sg1 ?_ | refine WL_nil ?_)
  refine s_call0 h rfl rfl rfl (by rw [hn]; rfl) rfl rfl (by first | trivial | (simp; done) | (simp; omega) | (simp at *; done) | (simp at *; omega)) rfl rfl rfl ?_
  repeat (first | refine stp ?_ | refine N_block_pass rfl ?_ | refine sp1 ?_ | refine sg1 ?_ | refine WL_nil ?_)
  refine W_cond rfl (by simp) (fun h => ?_) (fun h => ?_)
  · subst h
    repeat (first | refine stp ?_ | refine N_block_pass rfl ?_ | refine sp1 ?_ | refine sg1 ?_ | refine WL_nil ?_)
    exact rt1 []
  · subst h
    repeat (first | refine stp ?_ | refine N_block_pass rfl ?_ | refine sp1 ?_ | refine sg1 ?_ | refine WL_nil ?_)
    exact rt1 []
theorem days_case (y m : Int) : m = 1 ∨ m = 2 ∨ m = 3 ∨ m = 4 ∨ m = 5 ∨ m = 6 ∨ m = 7 ∨ m = 8 ∨ m = 9 ∨ m = 10 ∨ m = 11 ∨ m = 12 ∨ ((m < 1 ∨ 12 < m) ∧ daysN y m = 0) := by
  by_cases h : 1 ≤ m ∧ m ≤ 12
  · have := twelve h; omega
  · have : daysN y m = 0 := by
      unfold daysN
      rw [if_neg (by omega), if_neg (by omega), if_neg h]
    omega
theorem pdays_ok (y m : Int) (hy : 0 ≤ y ∧ y ≤ 10000) : Ct Try.prog 189 [lv (.int .i64 y), lv (.int .i64 m)] [] (lv (.int .i64 (daysN y m))) [] [] := by
  have hlong := plong_ok y hy
  have h31 : ∀ k : Int, k = 1 ∨ k = 3 ∨ k = 5 ∨ k = 7 ∨ k = 8 ∨ k = 10 ∨ k = 12 → Ct Try.prog 189 [lv (.int .i64 y), lv (.int .i64 k)] [] (lv (.int .i64 31)) [] [] := by
    intro k h
    rcases h with h | h | h | h | h | h | h <;> subst h <;> (refine Ct_intro Try.func189 rfl rfl rfl rfl rfl (fun E hn hb => ?_)) <;> (repeat (first | refine stp ?_ | refine N_block_pass rfl ?_ | refine sp1 ?_ | refine sg1 ?_ | refine WL_nil ?_ | refine W_cond rfl (by simp) (fun _ => ?_) (fun h => absurd h (by first | decide | (simp; done) | (simp; omega) | (simp at *; omega))) | refine W_cond rfl (by simp) (fun h => absurd h (by first | decide | (simp; done) | (simp; omega) | (simp at *; omega))) (fun _ => ?_))) <;> (exact rt1 [])
  have h30 : ∀ k : Int, k = 4 ∨ k = 6 ∨ k = 9 ∨ k = 11 → Ct Try.prog 189 [lv (.int .i64 y), lv (.int .i64 k)] [] (lv (.int .i64 30)) [] [] := by
    intro k h
    rcases h with h | h | h | h <;> subst h <;> (refine Ct_intro Try.func189 rfl rfl rfl rfl rfl (fun E hn hb => ?_)) <;> (repeat (first | refine stp ?_ | refine N_block_pass rfl ?_ | refine sp1 ?_ | refine sg1 ?_ | refine WL_nil ?_ | refine W_cond rfl (by simp) (fun _ => ?_) (fun h => absurd h (by first | decide | (simp; done) | (simp; omega) | (simp at *; omega))) | refine W_cond rfl (by simp) (fun h => absurd h (by first | decide | (simp; done) | (simp; omega) | (simp at *; omega))) (fun _ => ?_))) <;> (exact rt1 [])
  rcases days_case y m with h | h | h | h | h | h | h | h | h | h | h | h | h
  · subst h; exact h31 1 (by decide)
  · subst h
    show Ct Try.prog 189 [lv (.int .i64 y), lv (.int .i64 2)] [] (lv (.int .i64 (28 + lp y))) [] []
    unfold lp
    generalize longB y = b at *
    refine Ct_intro Try.func189 rfl rfl rfl rfl rfl (fun E hn hb => ?_)
    repeat (first | refine stp ?_ | refine N_block_pass rfl ?_ | refine sp1 ?_ | refine sg1 ?_ | refine WL_nil ?_ | refine W_cond rfl (by simp) (fun _ => ?_) (fun h => absurd h (by first | decide | (simp; done) | (simp; omega) | (simp at *; omega))) | refine W_cond rfl (by simp) (fun h => absurd h (by first | decide | (simp; done) | (simp; omega) | (simp at *; omega))) (fun _ => ?_))
    refine s_call0 hlong rfl rfl rfl (by rw [hn]; rfl) rfl rfl (by first | trivial | (simp; done) | (simp; omega) | (simp at *; done) | (simp at *; omega)) rfl rfl rfl ?_
    repeat (first | refine stp ?_ | refine N_block_pass rfl ?_ | refine sp1 ?_ | refine sg1 ?_ | refine WL_nil ?_)
    refine W_cond rfl (by simp) (fun h => ?_) (fun h => ?_)
    · subst h
      repeat (first | refine stp ?_ | refine N_block_pass rfl ?_ | refine sp1 ?_ | refine sg1 ?_ | refine WL_nil ?_)
      exact rt1 []
    · subst h
      repeat (first | refine stp ?_ | refine N_block_pass rfl ?_ | refine sp1 ?_ | refine sg1 ?_ | refine WL_nil ?_)
      exact rt1 []
  · subst h; exact h31 3 (by decide)
  · subst h; exact h30 4 (by decide)
  · subst h; exact h31 5 (by decide)
  · subst h; exact h30 6 (by decide)
  · subst h; exact h31 7 (by decide)
  · subst h; exact h31 8 (by decide)
  · subst h; exact h30 9 (by decide)
  · subst h; exact h31 10 (by decide)
  · subst h; exact h30 11 (by decide)
  · subst h; exact h31 12 (by decide)
  · obtain ⟨h1, h2⟩ := h
    rw [h2]
    refine Ct_intro Try.func189 rfl rfl rfl rfl rfl (fun E hn hb => ?_)
    repeat (first | refine stp ?_ | refine N_block_pass rfl ?_ | refine sp1 ?_ | refine sg1 ?_ | refine WL_nil ?_ | refine W_cond rfl (by simp) (fun _ => ?_) (fun h => absurd h (by first | decide | (simp; done) | (simp; omega) | (simp at *; omega))) | refine W_cond rfl (by simp) (fun h => absurd h (by first | decide | (simp; done) | (simp; omega) | (simp at *; omega))) (fun _ => ?_))
    exact rt1 []
theorem rdays_ok (y m : Int) (hy : 0 ≤ y ∧ y ≤ 10000) : Ct Try.prog 165 [lv (.int .i64 y), lv (.int .i64 m)] [] (lv (.int .i64 (daysN y m))) [] [] := by
  have hlong := rlong_ok y hy
  have h1 : ∀ k d : Int, k = 1 ∧ d = 31 ∨ k = 3 ∧ d = 31 ∨ k = 4 ∧ d = 30 ∨ k = 5 ∧ d = 31 ∨ k = 6 ∧ d = 30 ∨ k = 7 ∧ d = 31 ∨ k = 8 ∧ d = 31 ∨ k = 9 ∧ d = 30 ∨ k = 10 ∧ d = 31 ∨ k = 11 ∧ d = 30 ∨ k = 12 ∧ d = 31 → Ct Try.prog 165 [lv (.int .i64 y), lv (.int .i64 k)] [] (lv (.int .i64 d)) [] [] := by
    intro k d h
    rcases h with ⟨rfl, rfl⟩ | ⟨rfl, rfl⟩ | ⟨rfl, rfl⟩ | ⟨rfl, rfl⟩ | ⟨rfl, rfl⟩ | ⟨rfl, rfl⟩ | ⟨rfl, rfl⟩ | ⟨rfl, rfl⟩ | ⟨rfl, rfl⟩ | ⟨rfl, rfl⟩ | ⟨rfl, rfl⟩
    all_goals
      refine Ct_intro Try.func165 rfl rfl rfl rfl rfl (fun E hn hb => ?_)
      repeat (first | refine stp ?_ | refine N_block_pass rfl ?_ | refine sp1 ?_ | refine sg1 ?_ | refine WL_nil ?_ | refine W_cond rfl (by simp) (fun _ => ?_) (fun h => absurd h (by first | decide | (simp; done) | (simp; omega) | (simp at *; omega))) | refine W_cond rfl (by simp) (fun h => absurd h (by first | decide | (simp; done) | (simp; omega) | (simp at *; omega))) (fun _ => ?_))
      refine WL_q (opq_of (opy_lit (d := (.ints .i64 [31, 28, 31, 30, 31, 30, 31, 31, 30, 31, 30, 31])) rfl (elt_mk Try.underlying23 rfl rfl) zok3 rfl (by first | trivial | (simp; done) | (simp; omega) | (simp at *; done) | (simp at *; omega)) rfl ⟨by decide, by decide, rfl, rfl⟩) rfl) (by rw [hn]; rfl) ?_
      repeat (first | refine stp ?_ | refine N_block_pass rfl ?_ | refine sp1 ?_ | refine sg1 ?_ | refine WL_nil ?_ | refine W_cond rfl (by simp) (fun _ => ?_) (fun h => absurd h (by first | decide | (simp; done) | (simp; omega) | (simp at *; omega))) | refine W_cond rfl (by simp) (fun h => absurd h (by first | decide | (simp; done) | (simp; omega) | (simp at *; omega))) (fun _ => ?_))
      refine WL_q (opq_callG rfl rfl rfl rfl rfl (fun _ => hlong) (fun hG => by first | exact hG | (first | trivial | (simp; done) | (simp; omega) | (simp at *; done) | (simp at *; omega))) rfl rfl) (by rw [hn]; rfl) ?_
      repeat (first | refine stp ?_ | refine N_block_pass rfl ?_ | refine sp1 ?_ | refine sg1 ?_ | refine WL_nil ?_ | refine W_cond rfl (by simp) (fun _ => ?_) (fun h => absurd h (by first | decide | (simp; done) | (simp; omega) | (simp at *; omega))) | refine W_cond rfl (by simp) (fun h => absurd h (by first | decide | (simp; done) | (simp; omega) | (simp at *; omega))) (fun _ => ?_))
      exact rt1 []
  rcases days_case y m with h | h | h | h | h | h | h | h | h | h | h | h | h
  · subst h; exact h1 1 31 (by decide)
  · subst h
    show Ct Try.prog 165 [lv (.int .i64 y), lv (.int .i64 2)] [] (lv (.int .i64 (28 + lp y))) [] []
    unfold lp
    generalize longB y = b at *
    refine Ct_intro Try.func165 rfl rfl rfl rfl rfl (fun E hn hb => ?_)
    repeat (first | refine stp ?_ | refine N_block_pass rfl ?_ | refine sp1 ?_ | refine sg1 ?_ | refine WL_nil ?_ | refine W_cond rfl (by simp) (fun _ => ?_) (fun h => absurd h (by first | decide | (simp; done) | (simp; omega) | (simp at *; omega))) | refine W_cond rfl (by simp) (fun h => absurd h (by first | decide | (simp; done) | (simp; omega) | (simp at *; omega))) (fun _ => ?_))
    refine WL_q (opq_of (opy_lit (d := (.ints .i64 [31, 28, 31, 30, 31, 30, 31, 31, 30, 31, 30, 31])) rfl (elt_mk Try.underlying23 rfl rfl) zok3 rfl (by first | trivial | (simp; done) | (simp; omega) | (simp at *; done) | (simp at *; omega)) rfl ⟨by decide, by decide, rfl, rfl⟩) rfl) (by rw [hn]; rfl) ?_
    repeat (first | refine stp ?_ | refine N_block_pass rfl ?_ | refine sp1 ?_ | refine sg1 ?_ | refine WL_nil ?_)
    refine WL_q (opq_callG rfl rfl rfl rfl rfl (fun _ => hlong) (fun hG => by first | exact hG | (first | trivial | (simp; done) | (simp; omega) | (simp at *; done) | (simp at *; omega))) rfl rfl) (by rw [hn]; rfl) ?_
    repeat (first | refine stp ?_ | refine N_block_pass rfl ?_ | refine sp1 ?_ | refine sg1 ?_ | refine WL_nil ?_)
    refine W_cond rfl (by simp) (fun h => ?_) (fun h => ?_)
    · have : b = true := by simpa using h
      subst this
      repeat (first | refine stp ?_ | refine N_block_pass rfl ?_ | refine sp1 ?_ | refine sg1 ?_ | refine WL_nil ?_)
      exact rt1 []
    · have : b = false := by simpa using h
      subst this
      repeat (first | refine stp ?_ | refine N_block_pass rfl ?_ | refine sp1 ?_ | refine sg1 ?_ | refine WL_nil ?_)
      exact rt1 []
  · subst h; exact h1 3 31 (by decide)
  · subst h; exact h1 4 30 (by decide)
  · subst h; exact h1 5 31 (by decide)
  · subst h; exact h1 6 30 (by decide)
  · subst h; exact h1 7 31 (by decide)
  · subst h; exact h1 8 31 (by decide)
  · subst h; exact h1 9 30 (by decide)
  · subst h; exact h1 10 31 (by decide)
  · subst h; exact h1 11 30 (by decide)
  · subst h; exact h1 12 31 (by decide)
  · obtain ⟨h1, h2⟩ := h
    rw [h2]
    refine Ct_intro Try.func165 rfl rfl rfl rfl rfl (fun E hn hb => ?_)
    repeat (first | refine stp ?_ | refine N_block_pass rfl ?_ | refine sp1 ?_ | refine sg1 ?_ | refine WL_nil ?_)
    refine W_cond rfl (by simp) (fun h => ?_) (fun h => ?_)
    · repeat (first | refine stp ?_ | refine N_block_pass rfl ?_ | refine sp1 ?_ | refine sg1 ?_ | refine WL_nil ?_)
      exact rt1 []
    · exfalso
      simp [Bool.cond_eq_ite] at h
      omega
end Go.Proofs.Ythalijmfhllgbaa

namespace Go.Proofs.Ythalijmfhllgbaa
set_option linter.unusedSimpArgs false
set_option linter.unusedVariables false
open Go.Sx Dt

set_option maxRecDepth 10000

abbrev dateA (y m d : Int) : Av := .agg [.lf (.v (.int .i64 y)), .lf (.v (.int .i64 m)), .lf (.v (.int .i64 d))]
abbrev clkA (y m d h i s : Int) : Av := .agg [.lf (.v (.int .i64 y)), .lf (.v (.int .i64 m)), .lf (.v (.int .i64 d)), .lf (.v (.int .i64 h)), .lf (.v (.int .i64 i)), .lf (.v (.int .i64 s))]
def rightC (y m d h i s : Int) : Bool := rightD y m d && decide (0 ≤ h) && decide (h ≤ 23) && decide (0 ≤ i) && decide (i ≤ 59) && decide (0 ≤ s) && decide (s ≤ 59)
def secC (y m d h i s : Int) : Int := numD y m d * 86400 + 3600 * h + 60 * i + s

theorem pright_ok (y m d : Int) : Ct Try.prog 164 [dateA y m d] [] (lv (.bool (rightD y m d))) [] [] := by
  refine Ct_intro Try.func164 rfl rfl rfl rfl rfl (fun E hn hb => ?_)
  repeat (first | refine stp ?_ | refine N_block_pass rfl ?_ | refine sp1 ?_ | refine sg1 ?_ | refine WL_nil ?_)
  refine s_boxN rfl rfl rfl (by rw [hn]; rfl) rfl (by first | trivial | (simp; done) | (simp; omega) | (simp at *; done) | (simp at *; omega)) rfl rfl ?_
  repeat (first | refine stp ?_ | refine N_block_pass rfl ?_ | refine sp1 ?_ | refine sg1 ?_ | refine WL_nil ?_)
  refine W_drawW 23 (by kernel_rfl) (by kernel_rfl) (by kernel_rfl) (by rw [hn]; rfl) rfl rfl ?_
  repeat (first | refine dp1 ?_ | refine dg1 ?_ | refine DrawW_nil ?_)
  refine DrawW_cons rfl (ops_ofG rfl rfl (fun hG => opys_call (pdays_ok y m (by simp [Bool.cond_eq_ite] at hG; omega)) rfl rfl rfl (by first | exact hG | (first | trivial | (simp; done) | (simp; omega) | (simp at *; done) | (simp at *; omega))) rfl rfl rfl)) ?_
  repeat (first | refine dp1 ?_ | refine dg1 ?_ | refine DrawW_nil ?_)
  repeat (first | refine stp ?_ | refine N_block_pass rfl ?_ | refine sp1 ?_ | refine sg1 ?_ | refine WL_nil ?_)
  refine rt2 [] ?_ ?_
  · refine congrArg (fun x => lv (.bool x)) ?_
    rw [rightD, Bool.eq_iff_iff]
    simp [Bool.cond_eq_ite] <;> omega
  · trivial
theorem prightC_ok (y m d h i s : Int) : Ct Try.prog 129 [clkA y m d h i s] [] (lv (.bool (rightC y m d h i s))) [] [] := by
  have hr := pright_ok y m d
  unfold rightC
  generalize rightD y m d = R at *
  refine Ct_intro Try.func129 rfl rfl rfl rfl rfl (fun E hn hb => ?_)
  repeat (first | refine stp ?_ | refine N_block_pass rfl ?_ | refine sp1 ?_ | refine sg1 ?_ | refine WL_nil ?_)
  refine s_boxN rfl rfl rfl (by rw [hn]; rfl) rfl (by first | trivial | (simp; done) | (simp; omega) | (simp at *; done) | (simp at *; omega)) rfl rfl ?_
  repeat (first | refine stp ?_ | refine N_block_pass rfl ?_ | refine sp1 ?_ | refine sg1 ?_ | refine WL_nil ?_)
  refine s_call0 hr rfl rfl rfl (by rw [hn]; rfl) rfl rfl (by first | trivial | (simp; done) | (simp; omega) | (simp at *; done) | (simp at *; omega)) rfl rfl rfl ?_
  repeat (first | refine stp ?_ | refine N_block_pass rfl ?_ | refine sp1 ?_ | refine sg1 ?_ | refine WL_nil ?_)
  refine rt2 [] ?_ ?_
  · refine congrArg (fun x => lv (.bool x)) ?_
    rw [Bool.eq_iff_iff]
    cases R <;> simp [Bool.cond_eq_ite] <;> omega
  · trivial
end Go.Proofs.Ythalijmfhllgbaa

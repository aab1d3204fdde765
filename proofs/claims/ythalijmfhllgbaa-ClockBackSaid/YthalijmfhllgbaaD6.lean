/-
  Dates: moments of seconds, the program's and the document's. The conditions: none.
-/
import Derived.Test.YthalijmfhllgbaaD3
namespace Go.Proofs.Ythalijmfhllgbaa
set_option linter.unusedSimpArgs false
set_option linter.unusedVariables false
open Go.Sx Dt

set_option maxRecDepth 10000

theorem num_rng {y m d : Int} (hr : rightD y m d = true) : -719528 ≤ numD y m d ∧ numD y m d ≤ 2932896 := by
  simp only [rightD, Bool.and_eq_true, decide_eq_true_eq] at hr
  have h := num_year (y := y) (m := m) (d := d) (by omega)
  unfold yst at h
  omega
abbrev nR (r : Bool) (n : Int) : Av := .tup [lv (.int .i64 (if r then n else 0)), lv (.int .i64 (if r then 0 else 1))]
set_option maxHeartbeats 1000000 in
theorem pnumber_ok (y m d : Int) : Ct Try.prog 130 [dateA y m d] [] (nR (rightD y m d) (numD y m d)) [] [] := by
  have hR := pright_ok y m d
  by_cases hr : rightD y m d = true
  · rw [hr] at hR ⊢
    have hrr := hr
    simp only [rightD, Bool.and_eq_true, decide_eq_true_eq] at hr
    have hm := days_pos (y := y) (m := m) (by omega)
    have hN := pNum_eq (y := y) (m := m) (d := d) (by omega) hm
    have hrg := num_rng hrr
    have hd31 : d ≤ 31 := by
      have : daysN y m ≤ 31 := by
        have := lp_01 y
        unfold daysN; (repeat' split) <;> omega
      omega
    show Ct Try.prog 130 [dateA y m d] [] (.tup [lv (.int .i64 (numD y m d)), lv (.int .i64 0)]) [] []
    rw [← hN]
    have hpy : -1 ≤ pY y m ∧ pY y m ≤ 9999 := by unfold pY; split <;> omega
    have hpm : 0 ≤ pM m ∧ pM m ≤ 11 := by unfold pM; split <;> omega
    refine Ct_intro Try.func130 rfl rfl rfl rfl rfl (fun E hn hb => ?_)
    repeat (first | refine stp ?_ | refine N_block_pass rfl ?_ | refine sp1 ?_ | refine sg1 ?_ | refine WL_nil ?_)
    refine s_boxN rfl rfl rfl (by rw [hn]; rfl) rfl (by first | trivial | (simp; done) | (simp; omega) | (simp at *; done) | (simp at *; omega)) rfl rfl ?_
    repeat (first | refine stp ?_ | refine N_block_pass rfl ?_ | refine sp1 ?_ | refine sg1 ?_ | refine WL_nil ?_)
    refine s_call0 hR rfl rfl rfl (by rw [hn]; rfl) rfl rfl (by first | trivial | (simp; done) | (simp; omega) | (simp at *; done) | (simp at *; omega)) rfl rfl rfl ?_
    repeat (first | refine stp ?_ | refine N_block_pass rfl ?_ | refine sp1 ?_ | refine sg1 ?_ | refine WL_nil ?_)
    refine W_cond rfl (by simp) (fun hc => ?_) (fun hc => ?_)
    · simp at hc
    repeat (first | refine stp ?_ | refine N_block_pass rfl ?_ | refine sp1 ?_ | refine sg1 ?_ | refine WL_nil ?_)
    refine W_drawX [] (by kernel_rfl) (by kernel_rfl) (by rw [hn]; rfl) ?_
    repeat (first | refine DrawX_op rfl rfl rfl (ops_pure true rfl rfl (by first | trivial | (simp; done) | (simp; omega) | (simp at *; done) | (simp at *; omega))) ?_ | refine DrawX_op rfl rfl rfl (ops_pureG true rfl rfl rfl (by intro hG; first | trivial | (simp; done) | (simp; omega) | (simp at *; done) | (simp at *; omega))) ?_ | refine DrawX_fr rfl rfl rfl (fun _ => ops_pure true rfl rfl (by first | trivial | (simp; done) | (simp; omega) | (simp at *; done) | (simp at *; omega))) ?_ | refine DrawX_nil ?_)
    repeat (first | refine stp ?_ | refine N_block_pass rfl ?_ | refine sp1 ?_ | refine sg1 ?_ | refine WL_nil ?_)
    refine W_join (St.of [(1, .c (.ptr 65 0)), (4, lv (.int .i64 (pY y m))), (5, lv (.int .i64 (pM m)))] [(65, .cells [.lf (.v (.int .i64 y)), .lf (.v (.int .i64 m)), .lf (.v (.int .i64 d))])]) ?_ ?_
    · refine W_cond rfl (by simp) (fun hc => ?_) (fun hc => ?_)
      · have h3 : m - 3 < 0 := by simpa using hc
        have e1 : pY y m = y - 1 := if_pos h3
        have e2 : pM m = m - 3 + 12 := if_pos h3
        rw [e1, e2]
        repeat (first | refine stp ?_ | refine N_block_pass rfl ?_ | refine sp1 ?_ | refine sg1 ?_ | refine WL_nil ?_)
        (refine N_join ?_; refine St.le_of ⟨?_, ?_⟩ <;> (repeat' (first | exact trivial | exact rfl | refine ⟨?_, ?_⟩)) <;> first | exact rfl | (simp; done) | skip)
      · have h3 : ¬ m - 3 < 0 := by simpa using hc
        have e1 : pY y m = y := if_neg h3
        have e2 : pM m = m - 3 := if_neg h3
        rw [e1, e2]
        repeat (first | refine stp ?_ | refine N_block_pass rfl ?_ | refine sp1 ?_ | refine sg1 ?_ | refine WL_nil ?_)
        (refine N_join ?_; refine St.le_of ⟨?_, ?_⟩ <;> (repeat' (first | exact trivial | exact rfl | refine ⟨?_, ?_⟩)) <;> first | exact rfl | (simp; done) | skip)
    generalize pY y m = Y at *
    generalize pM m = M at *
    clear hN
    by_cases hY : Y < 0
    · have : Y = -1 := by omega
      subst this
      repeat (first | refine stp ?_ | refine N_block_pass rfl ?_ | refine sp1 ?_ | refine sg1 ?_ | refine WL_nil ?_)
      refine sp false rfl rfl (by rw [hn]; rfl) (by first | trivial | (simp; done) | (simp; omega) | (simp at *; done) | (simp at *; omega)) ?_
      repeat (first | refine stp ?_ | refine N_block_pass rfl ?_ | refine sp1 ?_ | refine sg1 ?_ | refine WL_nil ?_)
      refine W_cond rfl (by simp) (fun hc => ?_) (fun hc => ?_)
      · repeat (first | refine stp ?_ | refine N_block_pass rfl ?_ | refine sp1 ?_ | refine sg1 ?_ | refine WL_nil ?_)
        refine rt2 [] ?_ ?_
        · rfl
        · trivial
      · simp at hc
    · repeat (first | refine stp ?_ | refine N_block_pass rfl ?_ | refine sp1 ?_ | refine sg1 ?_ | refine WL_nil ?_)
      refine W_cond rfl (by simp) (fun hc => ?_) (fun hc => ?_)
      · simp at hc; omega
      · repeat (first | refine stp ?_ | refine N_block_pass rfl ?_ | refine sp1 ?_ | refine sg1 ?_ | refine WL_nil ?_)
        have eE : pE Y = Y / 400 := if_neg hY
        unfold pNum
        rw [eE]
        refine rt2 [] ?_ ?_
        · rfl
        · trivial
  · have hr : rightD y m d = false := by simpa using hr
    rw [hr] at hR ⊢
    refine Ct_intro Try.func130 rfl rfl rfl rfl rfl (fun E hn hb => ?_)
    repeat (first | refine stp ?_ | refine N_block_pass rfl ?_ | refine sp1 ?_ | refine sg1 ?_ | refine WL_nil ?_)
    refine s_boxN rfl rfl rfl (by rw [hn]; rfl) rfl (by first | trivial | (simp; done) | (simp; omega) | (simp at *; done) | (simp at *; omega)) rfl rfl ?_
    repeat (first | refine stp ?_ | refine N_block_pass rfl ?_ | refine sp1 ?_ | refine sg1 ?_ | refine WL_nil ?_)
    refine s_call0 hR rfl rfl rfl (by rw [hn]; rfl) rfl rfl (by first | trivial | (simp; done) | (simp; omega) | (simp at *; done) | (simp at *; omega)) rfl rfl rfl ?_
    repeat (first | refine stp ?_ | refine N_block_pass rfl ?_ | refine sp1 ?_ | refine sg1 ?_ | refine WL_nil ?_)
    refine W_cond rfl (by simp) (fun hc => ?_) (fun hc => ?_)
    · repeat (first | refine stp ?_ | refine N_block_pass rfl ?_ | refine sp1 ?_ | refine sg1 ?_ | refine WL_nil ?_)
      exact rt1 []
    · simp at hc
theorem psecond_ok (y m d h i s : Int) : Ct Try.prog 77 [clkA y m d h i s] [] (nR (rightC y m d h i s) (secC y m d h i s)) [] [] := by
  have hR := prightC_ok y m d h i s
  have hN := pnumber_ok y m d
  by_cases hr : rightC y m d h i s = true
  · rw [hr] at hR ⊢
    simp only [rightC, Bool.and_eq_true, decide_eq_true_eq] at hr
    have hrg := num_rng hr.1.1.1.1.1.1
    have hs : secC y m d h i s = numD y m d * 86400 + h * 3600 + i * 60 + s := by unfold secC; omega
    rw [hr.1.1.1.1.1.1] at hN
    rw [hs]
    generalize numD y m d = N at *
    refine Ct_intro Try.func77 rfl rfl rfl rfl rfl (fun E hn hb => ?_)
    repeat (first | refine stp ?_ | refine N_block_pass rfl ?_ | refine sp1 ?_ | refine sg1 ?_ | refine WL_nil ?_)
    refine s_boxN rfl rfl rfl (by rw [hn]; rfl) rfl (by first | trivial | (simp; done) | (simp; omega) | (simp at *; done) | (simp at *; omega)) rfl rfl ?_
    repeat (first | refine stp ?_ | refine N_block_pass rfl ?_ | refine sp1 ?_ | refine sg1 ?_ | refine WL_nil ?_)
    refine s_call0 hR rfl rfl rfl (by rw [hn]; rfl) rfl rfl (by first | trivial | (simp; done) | (simp; omega) | (simp at *; done) | (simp at *; omega)) rfl rfl rfl ?_
    repeat (first | refine stp ?_ | refine N_block_pass rfl ?_ | refine sp1 ?_ | refine sg1 ?_ | refine WL_nil ?_)
    refine W_cond rfl (by simp) (fun hc => ?_) (fun hc => ?_)
    · simp at hc
    repeat (first | refine stp ?_ | refine N_block_pass rfl ?_ | refine sp1 ?_ | refine sg1 ?_ | refine WL_nil ?_)
    refine s_call0 hN rfl rfl rfl (by rw [hn]; rfl) rfl rfl (by first | trivial | (simp; done) | (simp; omega) | (simp at *; done) | (simp at *; omega)) rfl rfl rfl ?_
    repeat (first | refine stp ?_ | refine N_block_pass rfl ?_ | refine sp1 ?_ | refine sg1 ?_ | refine WL_nil ?_)
    exact rt1 []
  · have hr : rightC y m d h i s = false := by simpa using hr
    rw [hr] at hR ⊢
    refine Ct_intro Try.func77 rfl rfl rfl rfl rfl (fun E hn hb => ?_)
    repeat (first | refine stp ?_ | refine N_block_pass rfl ?_ | refine sp1 ?_ | refine sg1 ?_ | refine WL_nil ?_)
    refine s_boxN rfl rfl rfl (by rw [hn]; rfl) rfl (by first | trivial | (simp; done) | (simp; omega) | (simp at *; done) | (simp at *; omega)) rfl rfl ?_
    repeat (first | refine stp ?_ | refine N_block_pass rfl ?_ | refine sp1 ?_ | refine sg1 ?_ | refine WL_nil ?_)
    refine s_call0 hR rfl rfl rfl (by rw [hn]; rfl) rfl rfl (by first | trivial | (simp; done) | (simp; omega) | (simp at *; done) | (simp at *; omega)) rfl rfl rfl ?_
    repeat (first | refine stp ?_ | refine N_block_pass rfl ?_ | refine sp1 ?_ | refine sg1 ?_ | refine WL_nil ?_)
    refine W_cond rfl (by simp) (fun hc => ?_) (fun hc => ?_)
    · repeat (first | refine stp ?_ | refine N_block_pass rfl ?_ | refine sp1 ?_ | refine sg1 ?_ | refine WL_nil ?_)
      exact rt1 []
    · simp at hc
set_option maxHeartbeats 1000000 in
theorem pof_ok (n : Int) (h0 : -719528 ≤ n) (h1 : n ≤ 2932896) : Ct Try.prog 134 [lv (.int .i64 n)] [] (.tup [dateA (ofY n) (ofM n) (ofD n), lv (.int .i64 0)]) [] [] := by
  have hrE : oE (n + 719468) = (n + 719468) / 146097 := by unfold oE; split <;> omega
  have hr0 : 0 ≤ oR (n + 719468) ∧ oR (n + 719468) ≤ 146096 := by unfold oR; rw [hrE]; omega
  have hEb : -1 ≤ oE (n + 719468) ∧ oE (n + 719468) ≤ 24 := by rw [hrE]; omega
  have hrd : oR (n + 719468) = n + 719468 - oE (n + 719468) * 146097 := rfl
  obtain ⟨y0, y1, y2, y3⟩ := oY_spec hr0.1 hr0.2
  have hyd : oY (oR (n + 719468)) = (oR (n + 719468) - oR (n + 719468) / 1460 + oR (n + 719468) / 36524 - oR (n + 719468) / 146096) / 365 := rfl
  have hdd : oD (oR (n + 719468)) = oR (n + 719468) - (365 * oY (oR (n + 719468)) + oY (oR (n + 719468)) / 4 - oY (oR (n + 719468)) / 100) := rfl
  have hmd : oM (oD (oR (n + 719468))) = (5 * oD (oR (n + 719468)) + 2) / 153 := rfl
  have hdb : 0 ≤ oD (oR (n + 719468)) ∧ oD (oR (n + 719468)) ≤ 400 := by
    have : sY 399 = 145731 := by decide
    have hs : sY (oY (oR (n + 719468)) + 1) ≤ sY (oY (oR (n + 719468))) + 366 := by unfold sY; omega
    have hd' : oD (oR (n + 719468)) = oR (n + 719468) - sY (oY (oR (n + 719468))) := rfl
    rcases y3 with y3 | ⟨y3, y4⟩
    · omega
    · rw [hd', y4, y3, this]; omega
  have eY : ofY n = if 12 < oM (oD (oR (n + 719468))) + 3 then oY (oR (n + 719468)) + 400 * oE (n + 719468) + 1 else oY (oR (n + 719468)) + 400 * oE (n + 719468) := rfl
  have eM : ofM n = if 12 < oM (oD (oR (n + 719468))) + 3 then oM (oD (oR (n + 719468))) + 3 - 12 else oM (oD (oR (n + 719468))) + 3 := rfl
  have eD : ofD n = oD (oR (n + 719468)) - (153 * oM (oD (oR (n + 719468))) + 2) / 5 + 1 := rfl
  have hmb : 0 ≤ oM (oD (oR (n + 719468))) ∧ oM (oD (oR (n + 719468))) ≤ 20 := by rw [hmd]; omega
  have hEd : oE (n + 719468) = if n + 719468 < 0 then -1 else (n + 719468) / 146097 := rfl
  generalize oM (oD (oR (n + 719468))) = M at *
  generalize oD (oR (n + 719468)) = D at *
  generalize oY (oR (n + 719468)) = Y at *
  generalize oR (n + 719468) = R at *
  generalize oE (n + 719468) = X at *
  generalize ofY n = y at *
  generalize ofM n = m at *
  generalize ofD n = d at *
  clear y2 y3 hrE
  refine Ct_intro Try.func134 rfl rfl rfl rfl rfl (fun E hn hb => ?_)
  repeat (first | refine stp ?_ | refine N_block_pass rfl ?_ | refine sp1 ?_ | refine sg1 ?_ | refine WL_nil ?_)
  refine s_allocN rfl rfl rfl (by rw [hn]; rfl) rfl zok120 ?_
  repeat (first | refine stp ?_ | refine N_block_pass rfl ?_ | refine sp1 ?_ | refine sg1 ?_ | refine WL_nil ?_)
  refine W_cond rfl (by simp) (fun hc => ?_) (fun hc => ?_)
  · exfalso
    simp [Bool.cond_eq_ite] at hc
    omega
  clear hc
  repeat (first | refine stp ?_ | refine N_block_pass rfl ?_ | refine sp1 ?_ | refine sg1 ?_ | refine WL_nil ?_)
  refine sp false rfl rfl (by rw [hn]; rfl) (by first | trivial | (simp; done) | (simp; omega) | (simp at *; done) | (simp at *; omega)) ?_
  repeat (first | refine stp ?_ | refine N_block_pass rfl ?_ | refine sp1 ?_ | refine sg1 ?_ | refine WL_nil ?_)
  refine W_join (St.of [(0, lv (.int .i64 (n + 719468))), (2, .c (.ptr 66 0)), (4, lv (.int .i64 X))] [(66, .cells [.lf (.v (.int .i64 0)), .lf (.v (.int .i64 0)), .lf (.v (.int .i64 0))])]) ?_ ?_
  · refine W_cond rfl (by simp) (fun hc => ?_) (fun hc => ?_)
    · have h3 : n + 719468 < 0 := by simpa using hc
      rw [if_pos h3] at hEd
      subst hEd
      repeat (first | refine stp ?_ | refine N_block_pass rfl ?_ | refine sp1 ?_ | refine sg1 ?_ | refine WL_nil ?_)
      (refine N_join ?_; refine St.le_of ⟨?_, ?_⟩ <;> (repeat' (first | exact trivial | exact rfl | refine ⟨?_, ?_⟩)) <;> first | exact rfl | (simp; done) | skip)
    · have h3 : ¬ n + 719468 < 0 := by simpa using hc
      rw [if_neg h3] at hEd
      have e4 : IntKind.i64.wrap ((n + 719468).tdiv 146097) = X := by
        rw [Int.tdiv_eq_ediv_of_nonneg (by omega), ← hEd]
        exact wrap_i64 X (by omega)
      rw [e4]
      repeat (first | refine stp ?_ | refine N_block_pass rfl ?_ | refine sp1 ?_ | refine sg1 ?_ | refine WL_nil ?_)
      (refine N_join ?_; refine St.le_of ⟨?_, ?_⟩ <;> (repeat' (first | exact trivial | exact rfl | refine ⟨?_, ?_⟩)) <;> first | exact rfl | (simp; done) | skip)
  clear hEd
  iterate 19 (first | refine stp ?_ | refine N_block_pass rfl ?_ | refine sp1 ?_ | refine sg1 ?_ | refine WL_nil ?_)
  rw [← hrd]
  iterate 12 (first | refine stp ?_ | refine N_block_pass rfl ?_ | refine sp1 ?_ | refine sg1 ?_ | refine WL_nil ?_)
  rw [← hyd]
  iterate 12 (first | refine stp ?_ | refine N_block_pass rfl ?_ | refine sp1 ?_ | refine sg1 ?_ | refine WL_nil ?_)
  rw [← hdd]
  iterate 7 (first | refine stp ?_ | refine N_block_pass rfl ?_ | refine sp1 ?_ | refine sg1 ?_ | refine WL_nil ?_)
  rw [← hmd]
  repeat (first | refine stp ?_ | refine N_block_pass rfl ?_ | refine sp1 ?_ | refine sg1 ?_ | refine WL_nil ?_)
  refine s_allocN rfl rfl rfl (by rw [hn]; rfl) rfl zok120 ?_
  refine s_storeN rfl rfl rfl rfl rfl (by first | trivial | (simp; done) | (simp; omega) | (simp at *; done) | (simp at *; omega)) rfl rfl rfl (by rw [cellsOf120]; rfl) (by rw [info120]; rfl) rfl rfl ?_
  repeat (first | refine stp ?_ | refine N_block_pass rfl ?_ | refine sp1 ?_ | refine sg1 ?_ | refine WL_nil ?_)
  refine W_cond rfl (by simp) (fun hc => ?_) (fun hc => ?_)
  · have h3 : 12 < M + 3 := by simpa using hc
    rw [if_pos h3] at eY eM
    subst eY eM eD
    repeat (first | refine stp ?_ | refine N_block_pass rfl ?_ | refine sp1 ?_ | refine sg1 ?_ | refine WL_nil ?_)
    refine s_storeN rfl rfl rfl rfl rfl (by first | trivial | (simp; done) | (simp; omega) | (simp at *; done) | (simp at *; omega)) rfl rfl rfl (by rw [cellsOf3]; rfl) (by rw [info3]; rfl) rfl rfl ?_
    repeat (first | refine stp ?_ | refine N_block_pass rfl ?_ | refine sp1 ?_ | refine sg1 ?_ | refine WL_nil ?_)
    refine s_storeN rfl rfl rfl rfl rfl (by first | trivial | (simp; done) | (simp; omega) | (simp at *; done) | (simp at *; omega)) rfl rfl rfl (by rw [cellsOf3]; rfl) (by rw [info3]; rfl) rfl rfl ?_
    repeat (first | refine stp ?_ | refine N_block_pass rfl ?_ | refine sp1 ?_ | refine sg1 ?_ | refine WL_nil ?_)
    refine s_storeN rfl rfl rfl rfl rfl (by first | trivial | (simp; done) | (simp; omega) | (simp at *; done) | (simp at *; omega)) rfl rfl rfl (by rw [cellsOf120]; rfl) (by rw [info120]; rfl) rfl rfl ?_
    repeat (first | refine stp ?_ | refine N_block_pass rfl ?_ | refine sp1 ?_ | refine sg1 ?_ | refine WL_nil ?_)
    exact rt1 []
  · have h3 : ¬ 12 < M + 3 := by simpa using hc
    rw [if_neg h3] at eY eM
    subst eY eM eD
    repeat (first | refine stp ?_ | refine N_block_pass rfl ?_ | refine sp1 ?_ | refine sg1 ?_ | refine WL_nil ?_)
    refine s_storeN rfl rfl rfl rfl rfl (by first | trivial | (simp; done) | (simp; omega) | (simp at *; done) | (simp at *; omega)) rfl rfl rfl (by rw [cellsOf120]; rfl) (by rw [info120]; rfl) rfl rfl ?_
    repeat (first | refine stp ?_ | refine N_block_pass rfl ?_ | refine sp1 ?_ | refine sg1 ?_ | refine WL_nil ?_)
    exact rt1 []
end Go.Proofs.Ythalijmfhllgbaa

namespace Go.Proofs.Ythalijmfhllgbaa
set_option linter.unusedSimpArgs false
set_option linter.unusedVariables false
open Go.Sx Dt

set_option maxRecDepth 10000

abbrev i64c (x : Int) : Cell := .lf (.v (.int .i64 x))
end Go.Proofs.Ythalijmfhllgbaa

namespace Go.Proofs.Ythalijmfhllgbaa
set_option linter.unusedSimpArgs false
set_option linter.unusedVariables false
open Go.Sx Dt

set_option maxRecDepth 10000

/-- Is there a moment? Which? -/
def atB (s : Int) : Bool := decide (-62167219200 ≤ s) && decide (s ≤ 253402300799)
abbrev atC (s : Int) : Av := clkA (ofY (s / 86400)) (ofM (s / 86400)) (ofD (s / 86400)) (s % 86400 / 3600) (s % 86400 / 60 % 60) (s % 86400 % 60)
abbrev clk0 : Av := clkA 0 0 0 0 0 0
theorem at_rng {s : Int} (h : atB s = true) : -62167219200 ≤ s ∧ s ≤ 253402300799 := by simpa [atB] using h
theorem pat_ok (s : Int) (h : atB s = true) : Ct Try.prog 82 [lv (.int .i64 s)] [] (.tup [atC s, lv (.int .i64 0)]) [] [] := by
  have hb1 := at_rng h
  have hof := pof_ok (s / 86400) (by omega) (by omega)
  have hQ : IntKind.i64.wrap (s.tdiv 86400) = if s < 0 then -(-s / 86400) else s / 86400 := by
    split
    · rename_i h0
      have := tdiv_neg (-s) 86400 (by omega) (by decide)
      rw [Int.neg_neg] at this
      rw [this]
      exact wrap_i64 _ (by omega)
    · rename_i h0
      rw [Int.tdiv_eq_ediv_of_nonneg (by omega)]
      exact wrap_i64 _ (by omega)
  have hT : s.tmod 86400 = if s < 0 then -(-s % 86400) else s % 86400 := by
    split
    · rename_i h0
      have h2 : s.tmod 86400 = -((-s).tmod 86400) := by
        have h3 := Int.neg_tmod (-s) 86400
        rwa [Int.neg_neg] at h3
      rw [h2, Int.tmod_eq_emod_of_nonneg (a := -s) (by omega)]
    · rename_i h0
      exact Int.tmod_eq_emod_of_nonneg (by omega)
  have hqt : IntKind.i64.wrap (s.tdiv 86400) = s / 86400 ∧ s.tmod 86400 = s % 86400 ∧ 0 ≤ s % 86400 ∨ IntKind.i64.wrap (s.tdiv 86400) = s / 86400 + 1 ∧ s.tmod 86400 = s % 86400 - 86400 ∧ s % 86400 - 86400 < 0 := by
    rw [hQ, hT]
    split <;> omega
  have hr0 : 0 ≤ s % 86400 ∧ s % 86400 < 86400 := by omega
  have hn0 : -719528 ≤ s / 86400 ∧ s / 86400 ≤ 2932896 := by omega
  clear hQ hT
  unfold atC
  refine Ct_intro Try.func82 rfl rfl rfl rfl rfl (fun E hn hb => ?_)
  repeat (first | refine stp ?_ | refine N_block_pass rfl ?_ | refine sp1 ?_ | refine sg1 ?_ | refine WL_nil ?_)
  refine s_allocN rfl rfl rfl (by rw [hn]; rfl) rfl zok122 ?_
  repeat (first | refine stp ?_ | refine N_block_pass rfl ?_ | refine sp1 ?_ | refine sg1 ?_ | refine WL_nil ?_)
  refine W_cond rfl (by simp) (fun hc => ?_) (fun hc => ?_)
  · exfalso
    simp [Bool.cond_eq_ite] at hc
    omega
  clear hc
  repeat (first | refine stp ?_ | refine N_block_pass rfl ?_ | refine sp1 ?_ | refine sg1 ?_ | refine WL_nil ?_)
  refine sp false rfl rfl (by rw [hn]; rfl) (by first | trivial | (simp; done) | (simp; omega) | (simp at *; done) | (simp at *; omega)) ?_
  repeat (first | refine stp ?_ | refine N_block_pass rfl ?_ | refine sp1 ?_ | refine sg1 ?_ | refine WL_nil ?_)
  refine sp false rfl rfl (by rw [hn]; rfl) (by first | trivial | (simp; done) | (simp; omega) | (simp at *; done) | (simp at *; omega)) ?_
  repeat (first | refine stp ?_ | refine N_block_pass rfl ?_ | refine sp1 ?_ | refine sg1 ?_ | refine WL_nil ?_)
  generalize IntKind.i64.wrap (s.tdiv 86400) = Q at *
  generalize s.tmod 86400 = T at *
  generalize s % 86400 = r at *
  generalize s / 86400 = n at *
  generalize ofY n = y at *
  generalize ofM n = m at *
  generalize ofD n = d at *
  refine W_join (St.of [(2, .c (.ptr 66 0)), (4, lv (.int .i64 n)), (5, lv (.int .i64 r))] [(66, .cells [i64c 0, i64c 0, i64c 0, i64c 0, i64c 0, i64c 0])]) ?_ ?_
  · refine W_cond rfl (by simp) (fun hc => ?_) (fun hc => ?_)
    · have hh : Q = n + 1 ∧ T = r - 86400 := by simp at hc; omega
      obtain ⟨rfl, rfl⟩ := hh
      repeat (first | refine stp ?_ | refine N_block_pass rfl ?_ | refine sp1 ?_ | refine sg1 ?_ | refine WL_nil ?_)
      rw [Int.add_sub_cancel, Int.sub_add_cancel]
      (refine N_join ?_; refine St.le_of ⟨?_, ?_⟩ <;> (repeat' (first | exact trivial | exact rfl | refine ⟨?_, ?_⟩)) <;> first | exact rfl | (simp; done) | skip)
    · have hh : Q = n ∧ T = r := by simp at hc; omega
      obtain ⟨rfl, rfl⟩ := hh
      repeat (first | refine stp ?_ | refine N_block_pass rfl ?_ | refine sp1 ?_ | refine sg1 ?_ | refine WL_nil ?_)
      (refine N_join ?_; refine St.le_of ⟨?_, ?_⟩ <;> (repeat' (first | exact trivial | exact rfl | refine ⟨?_, ?_⟩)) <;> first | exact rfl | (simp; done) | skip)
  repeat (first | refine stp ?_ | refine N_block_pass rfl ?_ | refine sp1 ?_ | refine sg1 ?_ | refine WL_nil ?_)
  refine s_call0 hof rfl rfl rfl (by rw [hn]; rfl) rfl rfl (by first | trivial | (simp; done) | (simp; omega) | (simp at *; done) | (simp at *; omega)) rfl rfl rfl ?_
  repeat (first | refine stp ?_ | refine N_block_pass rfl ?_ | refine sp1 ?_ | refine sg1 ?_ | refine WL_nil ?_)
  refine s_allocN rfl rfl rfl (by rw [hn]; rfl) rfl zok120 ?_
  refine s_storeN rfl rfl rfl rfl rfl (by first | trivial | (simp; done) | (simp; omega) | (simp at *; done) | (simp at *; omega)) rfl rfl rfl (by rw [cellsOf120]; rfl) (by rw [info120]; rfl) rfl rfl ?_
  repeat (first | refine stp ?_ | refine N_block_pass rfl ?_ | refine sp1 ?_ | refine sg1 ?_ | refine WL_nil ?_)
  refine s_storeN rfl rfl rfl rfl rfl (by first | trivial | (simp; done) | (simp; omega) | (simp at *; done) | (simp at *; omega)) rfl rfl rfl (by rw [cellsOf122]; rfl) (by rw [info122]; rfl) rfl rfl ?_
  repeat (first | refine stp ?_ | refine N_block_pass rfl ?_ | refine sp1 ?_ | refine sg1 ?_ | refine WL_nil ?_)
  refine N_weaken (St.le_of (l := [(2, .c (.ptr 66 0)), (3, lv (.int .i64 0))]) (h := [(66, .cells [i64c y, i64c m, i64c d, i64c (r / 3600), i64c (r / 60 % 60), i64c (r % 60)])]) ⟨⟨rfl, rfl⟩, rfl⟩) ?_
  exact rt1 [] rfl (hf := by rw [cellsOf122]; exact ⟨rfl, trivial, trivial, rfl⟩)
theorem pat_err (s : Int) (h : atB s = false) : Ct Try.prog 82 [lv (.int .i64 s)] [] (.tup [clk0, lv (.int .i64 1)]) [] [] := by
  refine Ct_intro Try.func82 rfl rfl rfl rfl rfl (fun E hn hb => ?_)
  repeat (first | refine stp ?_ | refine N_block_pass rfl ?_ | refine sp1 ?_ | refine sg1 ?_ | refine WL_nil ?_)
  refine s_allocN rfl rfl rfl (by rw [hn]; rfl) rfl zok122 ?_
  repeat (first | refine stp ?_ | refine N_block_pass rfl ?_ | refine sp1 ?_ | refine sg1 ?_ | refine WL_nil ?_)
  refine W_cond rfl (by simp) (fun hc => ?_) (fun hc => ?_)
  · repeat (first | refine stp ?_ | refine N_block_pass rfl ?_ | refine sp1 ?_ | refine sg1 ?_ | refine WL_nil ?_)
    refine s_storeN rfl rfl rfl rfl rfl (by first | trivial | (simp; done) | (simp; omega) | (simp at *; done) | (simp at *; omega)) rfl rfl rfl (by rw [cellsOf122]; rfl) (by rw [info122]; rfl) rfl rfl ?_
    repeat (first | refine stp ?_ | refine N_block_pass rfl ?_ | refine sp1 ?_ | refine sg1 ?_ | refine WL_nil ?_)
    exact rt1 [] rfl (hf := by rw [cellsOf122]; exact ⟨rfl, trivial, trivial, rfl⟩)
  · exfalso
    simp [Bool.cond_eq_ite] at hc
    simp [atB] at h
    omega
/-- The moment of a second is right, and its second is it. -/
theorem at_right {s : Int} (h : atB s = true) : rightC (ofY (s / 86400)) (ofM (s / 86400)) (ofD (s / 86400)) (s % 86400 / 3600) (s % 86400 / 60 % 60) (s % 86400 % 60) = true
    ∧ secC (ofY (s / 86400)) (ofM (s / 86400)) (ofD (s / 86400)) (s % 86400 / 3600) (s % 86400 / 60 % 60) (s % 86400 % 60) = s := by
  have hb1 := at_rng h
  obtain ⟨h1, h2⟩ := of_spec (n := s / 86400) (by omega) (by omega)
  refine ⟨?_, ?_⟩
  · simp only [rightC, h1, Bool.true_and, Bool.and_eq_true, decide_eq_true_eq]
    omega
  · unfold secC
    rw [h2]
    omega
end Go.Proofs.Ythalijmfhllgbaa

/-
  Dates: the document's dates of numbers; moments of seconds. The conditions: none but those of the calendar.
-/
import Derived.Test.YthalijmfhllgbaaD3
namespace Go.Proofs.Ythalijmfhllgbaa
set_option linter.unusedSimpArgs false
set_option linter.unusedVariables false
open Go.Sx Dt

set_option maxRecDepth 10000

theorem num_rng {y m d : Int} (hr : rightD y m d = true) : -719528 ≤ numD y m d ∧ numD y m d ≤ 2932896 := by
  simp only [rightD, Bool.and_eq_true, decide_eq_true_eq] at hr
  have h := num_year (y := y) (m := m) (d := d) (by omega)
  unfold yst at h
  omega
abbrev nR (r : Bool) (n : Int) : Av := .tup [lv (.int .i64 (if r then n else 0)), lv (.int .i64 (if r then 0 else 1))]
set_option maxHeartbeats 1000000 in
theorem pnumber_ok (y m d : Int) : Ct Try.prog 130 [dateA y m d] [] (nR (rightD y m d) (numD y m d)) [] [] := by
  have hR := pright_ok y m d
  by_cases hr : rightD y m d = true
  · rw [hr] at hR ⊢
    have hrr := hr
    simp only [rightD, Bool.and_eq_true, decide_eq_true_eq] at hr
    have hm := days_pos (y := y) (m := m) (by omega)
    have hN := pNum_eq (y := y) (m := m) (d := d) (by omega) hm
    have hrg := num_rng hrr
    have hd31 : d ≤ 31 := by
      have : daysN y m ≤ 31 := by
        have := lp_01 y
        unfold daysN; (repeat' split) <;> omega
      omega
    show Ct Try.prog 130 [dateA y m d] [] (.tup [lv (.int .i64 (numD y m d)), lv (.int .i64 0)]) [] []
    rw [← hN]
    have hpy : -1 ≤ pY y m ∧ pY y m ≤ 9999 := by unfold pY; split <;> omega
    have hpm : 0 ≤ pM m ∧ pM m ≤ 11 := by unfold pM; split <;> omega
    refine Ct_intro Try.func130 rfl rfl rfl rfl rfl (fun E hn hb => ?_)
    repeat (first | refine stp ?_ | refine N_block_pass rfl ?_ | refine sp1 ?_ | refine sg1 ?_ | refine WL_nil ?_)
    refine s_boxN rfl rfl rfl (by rw [hn]; rfl) rfl (by first | trivial | (simp; done) | (simp; omega) | (simp at *; done) | (simp at *; omega)) rfl rfl ?_
    repeat (first | refine stp ?_ | refine N_block_pass rfl ?_ | refine sp1 ?_ | refine sg1 ?_ | refine WL_nil ?_)
    refine s_call0 hR rfl rfl rfl (by rw [hn]; rfl) rfl rfl (by first | trivial | (simp; done) | (simp; omega) | (simp at *; done) | (simp at *; omega)) rfl rfl rfl ?_
    repeat (first | refine stp ?_ | refine N_block_pass rfl ?_ | refine sp1 ?_ | refine sg1 ?_ | refine WL_nil ?_)
    refine W_cond rfl (by simp) (fun hc => ?_) (fun hc => ?_)
    · simp at hc
    repeat (first | refine stp ?_ | refine N_block_pass rfl ?_ | refine sp1 ?_ | refine sg1 ?_ | refine WL_nil ?_)
    refine W_drawX [] (by kernel_rfl) (by kernel_rfl) (by rw [hn]; rfl) ?_
    repeat (first | refine DrawX_op rfl rfl rfl (ops_pure true rfl rfl (by first | trivial | (simp; done) | (simp; omega) | (simp at *; done) | (simp at *; omega))) ?_ | refine DrawX_op rfl rfl rfl (ops_pureG true rfl rfl rfl (by intro hG; first | trivial | (simp; done) | (simp; omega) | (simp at *; done) | (simp at *; omega))) ?_ | refine DrawX_fr rfl rfl rfl (fun _ => ops_pure true rfl rfl (by first | trivial | (simp; done) | (simp; omega) | (simp at *; done) | (simp at *; omega))) ?_ | refine DrawX_nil ?_)
    repeat (first | refine stp ?_ | refine N_block_pass rfl ?_ | refine sp1 ?_ | refine sg1 ?_ | refine WL_nil ?_)
    refine W_join (St.of [(1, .c (.ptr 65 0)), (4, lv (.int .i64 (pY y m))), (5, lv (.int .i64 (pM m)))] [(65, .cells [.lf (.v (.int .i64 y)), .lf (.v (.int .i64 m)), .lf (.v (.int .i64 d))])]) ?_ ?_
    · refine W_cond rfl (by simp) (fun hc => ?_) (fun hc => ?_)
      · have h3 : m - 3 < 0 := by simpa using hc
        have e1 : pY y m = y - 1 := if_pos h3
        have e2 : pM m = m - 3 + 12 := if_pos h3
        rw [e1, e2]
        repeat (first | refine stp ?_ | refine N_block_pass rfl ?_ | refine sp1 ?_ | refine sg1 ?_ | refine WL_nil ?_)
        (refine N_join ?_; refine St.le_of ⟨?_, ?_⟩ <;> (repeat' (first | exact trivial | exact rfl | refine ⟨?_, ?_⟩)) <;> first | exact rfl | (simp; done) | skip)
      · have h3 : ¬ m - 3 < 0 := by simpa using hc
        have e1 : pY y m = y := if_neg h3
        have e2 : pM m = m - 3 := if_neg h3
        rw [e1, e2]
        repeat (first | refine stp ?_ | refine N_block_pass rfl ?_ | refine sp1 ?_ | refine sg1 ?_ | refine WL_nil ?_)
        (refine N_join ?_; refine St.le_of ⟨?_, ?_⟩ <;> (repeat' (first | exact trivial | exact rfl | refine ⟨?_, ?_⟩)) <;> first | exact rfl | (simp; done) | skip)
    generalize pY y m = Y at *
    generalize pM m = M at *
    clear hN
    by_cases hY : Y < 0
    · have : Y = -1 := by omega
      subst this
      repeat (first | refine stp ?_ | refine N_block_pass rfl ?_ | refine sp1 ?_ | refine sg1 ?_ | refine WL_nil ?_)
      refine sp false rfl rfl (by rw [hn]; rfl) (by first | trivial | (simp; done) | (simp; omega) | (simp at *; done) | (simp at *; omega)) ?_
      repeat (first | refine stp ?_ | refine N_block_pass rfl ?_ | refine sp1 ?_ | refine sg1 ?_ | refine WL_nil ?_)
      refine W_cond rfl (by simp) (fun hc => ?_) (fun hc => ?_)
      · repeat (first | refine stp ?_ | refine N_block_pass rfl ?_ | refine sp1 ?_ | refine sg1 ?_ | refine WL_nil ?_)
        refine rt2 [] ?_ ?_
        · rfl
        · trivial
      · simp at hc
    · repeat (first | refine stp ?_ | refine N_block_pass rfl ?_ | refine sp1 ?_ | refine sg1 ?_ | refine WL_nil ?_)
      refine W_cond rfl (by simp) (fun hc => ?_) (fun hc => ?_)
      · simp at hc; omega
      · repeat (first | refine stp ?_ | refine N_block_pass rfl ?_ | refine sp1 ?_ | refine sg1 ?_ | refine WL_nil ?_)
        have eE : pE Y = Y / 400 := if_neg hY
        unfold pNum
        rw [eE]
        refine rt2 [] ?_ ?_
        · rfl
        · trivial
  · have hr : rightD y m d = false := by simpa using hr
    rw [hr] at hR ⊢
    refine Ct_intro Try.func130 rfl rfl rfl rfl rfl (fun E hn hb => ?_)
    repeat (first | refine stp ?_ | refine N_block_pass rfl ?_ | refine sp1 ?_ | refine sg1 ?_ | refine WL_nil ?_)
    refine s_boxN rfl rfl rfl (by rw [hn]; rfl) rfl (by first | trivial | (simp; done) | (simp; omega) | (simp at *; done) | (simp at *; omega)) rfl rfl ?_
    repeat (first | refine stp ?_ | refine N_block_pass rfl ?_ | refine sp1 ?_ | refine sg1 ?_ | refine WL_nil ?_)
    refine s_call0 hR rfl rfl rfl (by rw [hn]; rfl) rfl rfl (by first | trivial | (simp; done) | (simp; omega) | (simp at *; done) | (simp at *; omega)) rfl rfl rfl ?_
    repeat (first | refine stp ?_ | refine N_block_pass rfl ?_ | refine sp1 ?_ | refine sg1 ?_ | refine WL_nil ?_)
    refine W_cond rfl (by simp) (fun hc => ?_) (fun hc => ?_)
    · repeat (first | refine stp ?_ | refine N_block_pass rfl ?_ | refine sp1 ?_ | refine sg1 ?_ | refine WL_nil ?_)
      exact rt1 []
    · simp at hc
theorem psecond_ok (y m d h i s : Int) : Ct Try.prog 77 [clkA y m d h i s] [] (nR (rightC y m d h i s) (secC y m d h i s)) [] [] := by
  have hR := prightC_ok y m d h i s
  have hN := pnumber_ok y m d
  by_cases hr : rightC y m d h i s = true
  · rw [hr] at hR ⊢
    simp only [rightC, Bool.and_eq_true, decide_eq_true_eq] at hr
    have hrg := num_rng hr.1.1.1.1.1.1
    have hs : secC y m d h i s = numD y m d * 86400 + h * 3600 + i * 60 + s := by unfold secC; omega
    rw [hr.1.1.1.1.1.1] at hN
    rw [hs]
    generalize numD y m d = N at *
    refine Ct_intro Try.func77 rfl rfl rfl rfl rfl (fun E hn hb => ?_)
    repeat (first | refine stp ?_ | refine N_block_pass rfl ?_ | refine sp1 ?_ | refine sg1 ?_ | refine WL_nil ?_)
    refine s_boxN rfl rfl rfl (by rw [hn]; rfl) rfl (by first | trivial | (simp; done) | (simp; omega) | (simp at *; done) | (simp at *; omega)) rfl rfl ?_
    repeat (first | refine stp ?_ | refine N_block_pass rfl ?_ | refine sp1 ?_ | refine sg1 ?_ | refine WL_nil ?_)
    refine s_call0 hR rfl rfl rfl (by rw [hn]; rfl) rfl rfl (by first | trivial | (simp; done) | (simp; omega) | (simp at *; done) | (simp at *; omega)) rfl rfl rfl ?_
    repeat (first | refine stp ?_ | refine N_block_pass rfl ?_ | refine sp1 ?_ | refine sg1 ?_ | refine WL_nil ?_)
    refine W_cond rfl (by simp) (fun hc => ?_) (fun hc => ?_)
    · simp at hc
    repeat (first | refine stp ?_ | refine N_block_pass rfl ?_ | refine sp1 ?_ | refine sg1 ?_ | refine WL_nil ?_)
    refine s_call0 hN rfl rfl rfl (by rw [hn]; rfl) rfl rfl (by first | trivial | (simp; done) | (simp; omega) | (simp at *; done) | (simp at *; omega)) rfl rfl rfl ?_
    repeat (first | refine stp ?_ | refine N_block_pass rfl ?_ | refine sp1 ?_ | refine sg1 ?_ | refine WL_nil ?_)
    exact rt1 []
  · have hr : rightC y m d h i s = false := by simpa using hr
    rw [hr] at hR ⊢
    refine Ct_intro Try.func77 rfl rfl rfl rfl rfl (fun E hn hb => ?_)
    repeat (first | refine stp ?_ | refine N_block_pass rfl ?_ | refine sp1 ?_ | refine sg1 ?_ | refine WL_nil ?_)
    refine s_boxN rfl rfl rfl (by rw [hn]; rfl) rfl (by first | trivial | (simp; done) | (simp; omega) | (simp at *; done) | (simp at *; omega)) rfl rfl ?_
    repeat (first | refine stp ?_ | refine N_block_pass rfl ?_ | refine sp1 ?_ | refine sg1 ?_ | refine WL_nil ?_)
    refine s_call0 hR rfl rfl rfl (by rw [hn]; rfl) rfl rfl (by first | trivial | (simp; done) | (simp; omega) | (simp at *; done) | (simp at *; omega)) rfl rfl rfl ?_
    repeat (first | refine stp ?_ | refine N_block_pass rfl ?_ | refine sp1 ?_ | refine sg1 ?_ | refine WL_nil ?_)
    refine W_cond rfl (by simp) (fun hc => ?_) (fun hc => ?_)
    · repeat (first | refine stp ?_ | refine N_block_pass rfl ?_ | refine sp1 ?_ | refine sg1 ?_ | refine WL_nil ?_)
      exact rt1 []
    · simp at hc
set_option maxHeartbeats 1000000 in
theorem pof_ok (n : Int) (h0 : -719528 ≤ n) (h1 : n ≤ 2932896) : Ct Try.prog 134 [lv (.int .i64 n)] [] (.tup [dateA (ofY n) (ofM n) (ofD n), lv (.int .i64 0)]) [] [] := by
  have hrE : oE (n + 719468) = (n + 719468) / 146097 := by unfold oE; split <;> omega
  have hr0 : 0 ≤ oR (n + 719468) ∧ oR (n + 719468) ≤ 146096 := by unfold oR; rw [hrE]; omega
  have hEb : -1 ≤ oE (n + 719468) ∧ oE (n + 719468) ≤ 24 := by rw [hrE]; omega
  have hrd : oR (n + 719468) = n + 719468 - oE (n + 719468) * 146097 := rfl
  obtain ⟨y0, y1, y2, y3⟩ := oY_spec hr0.1 hr0.2
  have hyd : oY (oR (n + 719468)) = (oR (n + 719468) - oR (n + 719468) / 1460 + oR (n + 719468) / 36524 - oR (n + 719468) / 146096) / 365 := rfl
  have hdd : oD (oR (n + 719468)) = oR (n + 719468) - (365 * oY (oR (n + 719468)) + oY (oR (n + 719468)) / 4 - oY (oR (n + 719468)) / 100) := rfl
  have hmd : oM (oD (oR (n + 719468))) = (5 * oD (oR (n + 719468)) + 2) / 153 := rfl
  have hdb : 0 ≤ oD (oR (n + 719468)) ∧ oD (oR (n + 719468)) ≤ 400 := by
    have : sY 399 = 145731 := by decide
    have hs : sY (oY (oR (n + 719468)) + 1) ≤ sY (oY (oR (n + 719468))) + 366 := by unfold sY; omega
    have hd' : oD (oR (n + 719468)) = oR (n + 719468) - sY (oY (oR (n + 719468))) := rfl
    rcases y3 with y3 | ⟨y3, y4⟩
    · omega
    · rw [hd', y4, y3, this]; omega
  have eY : ofY n = if 12 < oM (oD (oR (n + 719468))) + 3 then oY (oR (n + 719468)) + 400 * oE (n + 719468) + 1 else oY (oR (n + 719468)) + 400 * oE (n + 719468) := rfl
  have eM : ofM n = if 12 < oM (oD (oR (n + 719468))) + 3 then oM (oD (oR (n + 719468))) + 3 - 12 else oM (oD (oR (n + 719468))) + 3 := rfl
  have eD : ofD n = oD (oR (n + 719468)) - (153 * oM (oD (oR (n + 719468))) + 2) / 5 + 1 := rfl
  have hmb : 0 ≤ oM (oD (oR (n + 719468))) ∧ oM (oD (oR (n + 719468))) ≤ 20 := by rw [hmd]; omega
  have hEd : oE (n + 719468) = if n + 719468 < 0 then -1 else (n + 719468) / 146097 := rfl
  generalize oM (oD (oR (n + 719468))) = M at *
  generalize oD (oR (n + 719468)) = D at *
  generalize oY (oR (n + 719468)) = Y at *
  generalize oR (n + 719468) = R at *
  generalize oE (n + 719468) = X at *
  generalize ofY n = y at *
  generalize ofM n = m at *
  generalize ofD n = d at *
  clear y2 y3 hrE
  refine Ct_intro Try.func134 rfl rfl rfl rfl rfl (fun E hn hb => ?_)
  repeat (first | refine stp ?_ | refine N_block_pass rfl ?_ | refine sp1 ?_ | refine sg1 ?_ | refine WL_nil ?_)
  refine s_allocN rfl rfl rfl (by rw [hn]; rfl) rfl zok120 ?_
  repeat (first | refine stp ?_ | refine N_block_pass rfl ?_ | refine sp1 ?_ | refine sg1 ?_ | refine WL_nil ?_)
  refine W_cond rfl (by simp) (fun hc => ?_) (fun hc => ?_)
  · exfalso
    simp [Bool.cond_eq_ite] at hc
    omega
  clear hc
  repeat (first | refine stp ?_ | refine N_block_pass rfl ?_ | refine sp1 ?_ | refine sg1 ?_ | refine WL_nil ?_)
  refine sp false rfl rfl (by rw [hn]; rfl) (by first | trivial | (simp; done) | (simp; omega) | (simp at *; done) | (simp at *; omega)) ?_
  repeat (first | refine stp ?_ | refine N_block_pass rfl ?_ | refine sp1 ?_ | refine sg1 ?_ | refine WL_nil ?_)
  refine W_join (St.of [(0, lv (.int .i64 (n + 719468))), (2, .c (.ptr 66 0)), (4, lv (.int .i64 X))] [(66, .cells [.lf (.v (.int .i64 0)), .lf (.v (.int .i64 0)), .lf (.v (.int .i64 0))])]) ?_ ?_
  · refine W_cond rfl (by simp) (fun hc => ?_) (fun hc => ?_)
    · have h3 : n + 719468 < 0 := by simpa using hc
      rw [if_pos h3] at hEd
      subst hEd
      repeat (first | refine stp ?_ | refine N_block_pass rfl ?_ | refine sp1 ?_ | refine sg1 ?_ | refine WL_nil ?_)
      (refine N_join ?_; refine St.le_of ⟨?_, ?_⟩ <;> (repeat' (first | exact trivial | exact rfl | refine ⟨?_, ?_⟩)) <;> first | exact rfl | (simp; done) | skip)
    · have h3 : ¬ n + 719468 < 0 := by simpa using hc
      rw [if_neg h3] at hEd
      have e4 : IntKind.i64.wrap ((n + 719468).tdiv 146097) = X := by
        rw [Int.tdiv_eq_ediv_of_nonneg (by omega), ← hEd]
        exact wrap_i64 X (by omega)
      rw [e4]
      repeat (first | refine stp ?_ | refine N_block_pass rfl ?_ | refine sp1 ?_ | refine sg1 ?_ | refine WL_nil ?_)
      (refine N_join ?_; refine St.le_of ⟨?_, ?_⟩ <;> (repeat' (first | exact trivial | exact rfl | refine ⟨?_, ?_⟩)) <;> first | exact rfl | (simp; done) | skip)
  clear hEd
  iterate 19 (first | refine stp ?_ | refine N_block_pass rfl ?_ | refine sp1 ?_ | refine sg1 ?_ | refine WL_nil ?_)
  rw [← hrd]
  iterate 12 (first | refine stp ?_ | refine N_block_pass rfl ?_ | refine sp1 ?_ | refine sg1 ?_ | refine WL_nil ?_)
  rw [← hyd]
  iterate 12 (first | refine stp ?_ | refine N_block_pass rfl ?_ | refine sp1 ?_ | refine sg1 ?_ | refine WL_nil ?_)
  rw [← hdd]
  iterate 7 (first | refine stp ?_ | refine N_block_pass rfl ?_ | refine sp1 ?_ | refine sg1 ?_ | refine WL_nil ?_)
  rw [← hmd]
  repeat (first | refine stp ?_ | refine N_block_pass rfl ?_ | refine sp1 ?_ | refine sg1 ?_ | refine WL_nil ?_)
  refine s_allocN rfl rfl rfl (by rw [hn]; rfl) rfl zok120 ?_
  refine s_storeN rfl rfl rfl rfl rfl (by first | trivial | (simp; done) | (simp; omega) | (simp at *; done) | (simp at *; omega)) rfl rfl rfl (by rw [cellsOf120]; rfl) (by rw [info120]; rfl) rfl rfl ?_
  repeat (first | refine stp ?_ | refine N_block_pass rfl ?_ | refine sp1 ?_ | refine sg1 ?_ | refine WL_nil ?_)
  refine W_cond rfl (by simp) (fun hc => ?_) (fun hc => ?_)
  · have h3 : 12 < M + 3 := by simpa using hc
    rw [if_pos h3] at eY eM
    subst eY eM eD
    repeat (first | refine stp ?_ | refine N_block_pass rfl ?_ | refine sp1 ?_ | refine sg1 ?_ | refine WL_nil ?_)
    refine s_storeN rfl rfl rfl rfl rfl (by first | trivial | (simp; done) | (simp; omega) | (simp at *; done) | (simp at *; omega)) rfl rfl rfl (by rw [cellsOf3]; rfl) (by rw [info3]; rfl) rfl rfl ?_
    repeat (first | refine stp ?_ | refine N_block_pass rfl ?_ | refine sp1 ?_ | refine sg1 ?_ | refine WL_nil ?_)
    refine s_storeN rfl rfl rfl rfl rfl (by first | trivial | (simp; done) | (simp; omega) | (simp at *; done) | (simp at *; omega)) rfl rfl rfl (by rw [cellsOf3]; rfl) (by rw [info3]; rfl) rfl rfl ?_
    repeat (first | refine stp ?_ | refine N_block_pass rfl ?_ | refine sp1 ?_ | refine sg1 ?_ | refine WL_nil ?_)
    refine s_storeN rfl rfl rfl rfl rfl (by first | trivial | (simp; done) | (simp; omega) | (simp at *; done) | (simp at *; omega)) rfl rfl rfl (by rw [cellsOf120]; rfl) (by rw [info120]; rfl) rfl rfl ?_
    repeat (first | refine stp ?_ | refine N_block_pass rfl ?_ | refine sp1 ?_ | refine sg1 ?_ | refine WL_nil ?_)
    exact rt1 []
  · have h3 : ¬ 12 < M + 3 := by simpa using hc
    rw [if_neg h3] at eY eM
    subst eY eM eD
    repeat (first | refine stp ?_ | refine N_block_pass rfl ?_ | refine sp1 ?_ | refine sg1 ?_ | refine WL_nil ?_)
    refine s_storeN rfl rfl rfl rfl rfl (by first | trivial | (simp; done) | (simp; omega) | (simp at *; done) | (simp at *; omega)) rfl rfl rfl (by rw [cellsOf120]; rfl) (by rw [info120]; rfl) rfl rfl ?_
    repeat (first | refine stp ?_ | refine N_block_pass rfl ?_ | refine sp1 ?_ | refine sg1 ?_ | refine WL_nil ?_)
    exact rt1 []
end Go.Proofs.Ythalijmfhllgbaa

namespace Go.Proofs.Ythalijmfhllgbaa
set_option linter.unusedSimpArgs false
set_option linter.unusedVariables false
open Go.Sx Dt

set_option maxRecDepth 10000

abbrev i64c (x : Int) : Cell := .lf (.v (.int .i64 x))
set_option maxHeartbeats 1000000 in
theorem rof_ok (n : Int) (h0 : -719528 ≤ n) (h1 : n ≤ 2932896) : Ct Try.prog 137 [lv (.int .i64 n)] [] (.tup [dateA (ofY n) (ofM n) (ofD n), lv (.bool true)]) [] [] := by
  obtain ⟨hr, hN⟩ := of_spec h0 h1
  have e0 : yst ((n + 719528) / 146097 * 400) + (n + 719528) % 146097 = n := by unfold yst; omega
  have hy0 : 0 ≤ (n + 719528) / 146097 * 400 := by omega
  have hl0 : 0 ≤ (n + 719528) % 146097 := by omega
  have hy1 : (n + 719528) / 146097 * 400 ≤ 9999 := by omega
  refine Ct_intro Try.func137 rfl rfl rfl rfl rfl (fun E hn hb => ?_)
  repeat (first | refine stp ?_ | refine N_block_pass rfl ?_ | refine sp1 ?_ | refine sg1 ?_ | refine WL_nil ?_)
  refine s_allocN rfl rfl rfl (by rw [hn]; rfl) rfl zok124 ?_
  repeat (first | refine stp ?_ | refine N_block_pass rfl ?_ | refine sp1 ?_ | refine sg1 ?_ | refine WL_nil ?_)
  refine W_cond rfl (by simp) (fun hc => ?_) (fun hc => ?_)
  · exfalso
    simp [Bool.cond_eq_ite] at hc
    omega
  clear hc
  repeat (first | refine stp ?_ | refine N_block_pass rfl ?_ | refine sp1 ?_ | refine sg1 ?_ | refine WL_nil ?_)
  refine s_allocN rfl rfl rfl (by rw [hn]; rfl) rfl zok124 ?_
  refine s_storeN rfl rfl rfl rfl rfl (by first | trivial | (simp; done) | (simp; omega) | (simp at *; done) | (simp at *; omega)) rfl rfl rfl (by rw [cellsOf124]; rfl) (by rw [info124]; rfl) rfl rfl ?_
  repeat (first | refine stp ?_ | refine N_block_pass rfl ?_ | refine sp1 ?_ | refine sg1 ?_ | refine WL_nil ?_)
  refine s_storeN rfl rfl rfl rfl rfl (by first | trivial | (simp; done) | (simp; omega) | (simp at *; done) | (simp at *; omega)) rfl rfl rfl (by rw [cellsOf3]; rfl) (by rw [info3]; rfl) rfl rfl ?_
  repeat (first | refine stp ?_ | refine N_block_pass rfl ?_ | refine sp1 ?_ | refine sg1 ?_ | refine WL_nil ?_)
  generalize (n + 719528) / 146097 * 400 = Y0 at *
  generalize (n + 719528) % 146097 = L0 at *
  refine W_weaken (St.le_of (l := [(2, .c (.ptr 66 0)), (4, .c (.ptr 68 0)), (5, lv (.int .i64 L0))]) (h := [(66, .cells [i64c 0, i64c 0, i64c 0]), (68, .cells [i64c Y0, i64c 1, i64c 0])]) (by refine ⟨?_, ?_⟩ <;> (repeat' (first | exact trivial | exact rfl | refine ⟨?_, ?_⟩)) <;> first | exact rfl | (simp; done) | skip)) ?_
  refine W_loop (ι := {s : Int × Int // 0 ≤ s.1 ∧ 0 ≤ s.2 ∧ yst s.1 + s.2 = n}) (fun s => St.of [(2, .c (.ptr 66 0)), (4, .c (.ptr 68 0)), (5, lv (.int .i64 s.1.2))] [(66, .cells [i64c 0, i64c 0, i64c 0]), (68, .cells [i64c s.1.1, i64c 1, i64c 0])]) (fun s => s.1.2.toNat) (fun s => ?_) ⟨(Y0, L0), hy0, hl0, e0⟩
  obtain ⟨⟨Y, L⟩, hY, hL, he⟩ := s
  dsimp only at hY hL he ⊢
  have hY9 : Y ≤ 9999 := by unfold yst at he; omega
  have hLb : L ≤ 4000000 := by unfold yst at he; omega
  have hyr := ryear_ok Y (by omega)
  have hl := lp_01 Y
  have hs := yst_succ Y
  repeat (first | refine stp ?_ | refine N_block_pass rfl ?_ | refine sp1 ?_ | refine sg1 ?_ | refine WL_nil ?_)
  refine s_call0 hyr rfl rfl rfl (by rw [hn]; rfl) rfl rfl (by first | trivial | (simp; done) | (simp; omega) | (simp at *; done) | (simp at *; omega)) rfl rfl rfl ?_
  repeat (first | refine stp ?_ | refine N_block_pass rfl ?_ | refine sp1 ?_ | refine sg1 ?_ | refine WL_nil ?_)
  refine W_cond rfl (by simp) (fun hc => ?_) (fun hc => ?_)
  · have h3 : 365 + lp Y ≤ L := by simpa using hc
    repeat (first | refine stp ?_ | refine N_block_pass rfl ?_ | refine sp1 ?_ | refine sg1 ?_ | refine WL_nil ?_)
    refine s_call0 hyr rfl rfl rfl (by rw [hn]; rfl) rfl rfl (by first | trivial | (simp; done) | (simp; omega) | (simp at *; done) | (simp at *; omega)) rfl rfl rfl ?_
    repeat (first | refine stp ?_ | refine N_block_pass rfl ?_ | refine sp1 ?_ | refine sg1 ?_ | refine WL_nil ?_)
    refine s_storeN rfl rfl rfl rfl rfl (by first | trivial | (simp; done) | (simp; omega) | (simp at *; done) | (simp at *; omega)) rfl rfl rfl (by rw [cellsOf3]; rfl) (by rw [info3]; rfl) rfl rfl ?_
    repeat (first | refine stp ?_ | refine N_block_pass rfl ?_ | refine sp1 ?_ | refine sg1 ?_ | refine WL_nil ?_)
    refine N_round ⟨(Y + 1, L - (365 + lp Y)), by dsimp only; omega⟩ (by dsimp only; omega) (St.le_of ⟨⟨rfl, rfl, rfl⟩, ⟨rfl, rfl⟩⟩)
  · have h3 : L < 365 + lp Y := by simp at hc; omega
    repeat (first | refine stp ?_ | refine N_block_pass rfl ?_ | refine sp1 ?_ | refine sg1 ?_ | refine WL_nil ?_)
    refine W_weaken (St.le_of (l := [(2, .c (.ptr 66 0)), (4, .c (.ptr 68 0)), (5, lv (.int .i64 L))]) (h := [(66, .cells [i64c 0, i64c 0, i64c 0]), (68, .cells [i64c Y, i64c 1, i64c 0])]) (by refine ⟨?_, ?_⟩ <;> (repeat' (first | exact trivial | exact rfl | refine ⟨?_, ?_⟩)) <;> first | exact rfl | (simp; done) | skip)) ?_
    refine W_loop (ι := {s : Int × Int // 1 ≤ s.1 ∧ s.1 ≤ 12 ∧ 0 ≤ s.2 ∧ mst Y s.1 + s.2 = L}) (fun s => St.of [(2, .c (.ptr 66 0)), (4, .c (.ptr 68 0)), (5, lv (.int .i64 s.1.2))] [(66, .cells [i64c 0, i64c 0, i64c 0]), (68, .cells [i64c Y, i64c s.1.1, i64c 0])]) (fun s => (13 - s.1.1).toNat) (fun s => ?_) ⟨(1, L), by dsimp only; refine ⟨by omega, by omega, hL, ?_⟩; simp [mst]⟩
    obtain ⟨⟨k, l⟩, hk1, hk2, hl1, hle⟩ := s
    dsimp only at hk1 hk2 hl1 hle ⊢
    have hdk := rdays_ok Y k (by omega)
    have hms := mst_succ Y k (by omega)
    have hme := mst_end Y
    have hmn := mst_nonneg Y k (by omega)
    have hdn : 0 ≤ daysN Y k ∧ daysN Y k ≤ 31 := by unfold daysN; (repeat' split) <;> omega
    repeat (first | refine stp ?_ | refine N_block_pass rfl ?_ | refine sp1 ?_ | refine sg1 ?_ | refine WL_nil ?_)
    refine s_call0 hdk rfl rfl rfl (by rw [hn]; rfl) rfl rfl (by first | trivial | (simp; done) | (simp; omega) | (simp at *; done) | (simp at *; omega)) rfl rfl rfl ?_
    repeat (first | refine stp ?_ | refine N_block_pass rfl ?_ | refine sp1 ?_ | refine sg1 ?_ | refine WL_nil ?_)
    refine W_cond rfl (by simp) (fun hc => ?_) (fun hc => ?_)
    · have h4 : daysN Y k ≤ l := by simpa using hc
      have hk12 : k ≠ 12 := by
        intro e; subst e
        have : mst Y (12 + 1) = mst Y 13 := rfl
        omega
      repeat (first | refine stp ?_ | refine N_block_pass rfl ?_ | refine sp1 ?_ | refine sg1 ?_ | refine WL_nil ?_)
      refine s_call0 hdk rfl rfl rfl (by rw [hn]; rfl) rfl rfl (by first | trivial | (simp; done) | (simp; omega) | (simp at *; done) | (simp at *; omega)) rfl rfl rfl ?_
      repeat (first | refine stp ?_ | refine N_block_pass rfl ?_ | refine sp1 ?_ | refine sg1 ?_ | refine WL_nil ?_)
      refine s_storeN rfl rfl rfl rfl rfl (by first | trivial | (simp; done) | (simp; omega) | (simp at *; done) | (simp at *; omega)) rfl rfl rfl (by rw [cellsOf3]; rfl) (by rw [info3]; rfl) rfl rfl ?_
      repeat (first | refine stp ?_ | refine N_block_pass rfl ?_ | refine sp1 ?_ | refine sg1 ?_ | refine WL_nil ?_)
      refine N_round ⟨(k + 1, l - daysN Y k), by dsimp only; omega⟩ (by dsimp only; omega) (St.le_of ⟨⟨rfl, rfl, rfl⟩, ⟨rfl, rfl⟩⟩)
    · have h4 : l < daysN Y k := by simp at hc; omega
      have hrr := hr
      simp only [rightD, Bool.and_eq_true, decide_eq_true_eq] at hrr
      have hnum : numD Y k (l + 1) = n := by unfold numD; omega
      obtain ⟨q1, q2, q3⟩ := num_inj (y := Y) (m := k) (d := l + 1) (y' := ofY n) (m' := ofM n) (d' := ofD n) (by omega) (by omega) (by omega)
      rw [← q1, ← q2, ← q3]
      repeat (first | refine stp ?_ | refine N_block_pass rfl ?_ | refine sp1 ?_ | refine sg1 ?_ | refine WL_nil ?_)
      refine s_storeN rfl rfl rfl rfl rfl (by first | trivial | (simp; done) | (simp; omega) | (simp at *; done) | (simp at *; omega)) rfl rfl rfl (by rw [cellsOf3]; rfl) (by rw [info3]; rfl) rfl rfl ?_
      repeat (first | refine stp ?_ | refine N_block_pass rfl ?_ | refine sp1 ?_ | refine sg1 ?_ | refine WL_nil ?_)
      refine s_storeN rfl rfl rfl rfl rfl (by first | trivial | (simp; done) | (simp; omega) | (simp at *; done) | (simp at *; omega)) rfl rfl rfl (by rw [cellsOf124]; rfl) (by rw [info124]; rfl) rfl rfl ?_
      repeat (first | refine stp ?_ | refine N_block_pass rfl ?_ | refine sp1 ?_ | refine sg1 ?_ | refine WL_nil ?_)
      exact rt1 []
end Go.Proofs.Ythalijmfhllgbaa

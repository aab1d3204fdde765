/-
  Dates: the document's dates of numbers; moments of seconds. The conditions: none but those of the calendar.
-/
import Derived.Test.YthalijmfhllgbaaD2
namespace Go.Proofs.Ythalijmfhllgbaa
set_option linter.unusedSimpArgs false
set_option linter.unusedVariables false
open Go.Sx Dt

set_option maxRecDepth 10000

abbrev dateA (y m d : Int) : Av := .agg [.lf (.v (.int .i64 y)), .lf (.v (.int .i64 m)), .lf (.v (.int .i64 d))]
abbrev clkA (y m d h i s : Int) : Av := .agg [.lf (.v (.int .i64 y)), .lf (.v (.int .i64 m)), .lf (.v (.int .i64 d)), .lf (.v (.int .i64 h)), .lf (.v (.int .i64 i)), .lf (.v (.int .i64 s))]
def rightC (y m d h i s : Int) : Bool := rightD y m d && decide (0 ≤ h) && decide (h ≤ 23) && decide (0 ≤ i) && decide (i ≤ 59) && decide (0 ≤ s) && decide (s ≤ 59)
def secC (y m d h i s : Int) : Int := numD y m d * 86400 + 3600 * h + 60 * i + s

theorem pright_ok (y m d : Int) : Ct Try.prog 164 [dateA y m d] [] (lv (.bool (rightD y m d))) [] [] := by
  refine Ct_intro Try.func164 rfl rfl rfl rfl rfl (fun E hn hb => ?_)
  repeat (first | refine stp ?_ | refine N_block_pass rfl ?_ | refine sp1 ?_ | refine sg1 ?_ | refine WL_nil ?_)
  refine s_boxN rfl rfl rfl (by rw [hn]; rfl) rfl (by first | trivial | (simp; done) | (simp; omega) | (simp at *; done) | (simp at *; omega)) rfl rfl ?_
  repeat (first | refine stp ?_ | refine N_block_pass rfl ?_ | refine sp1 ?_ | refine sg1 ?_ | refine WL_nil ?_)
  refine W_drawW 23 (by kernel_rfl) (by kernel_rfl) (by kernel_rfl) (by rw [hn]; rfl) rfl rfl ?_
  repeat (first | refine dp1 ?_ | refine dg1 ?_ | refine DrawW_nil ?_)
  refine DrawW_cons rfl (ops_ofG rfl rfl (fun hG => opys_call (pdays_ok y m (by simp [Bool.cond_eq_ite] at hG; omega)) rfl rfl rfl (by first | exact hG | (first | trivial | (simp; done) | (simp; omega) | (simp at *; done) | (simp at *; omega))) rfl rfl rfl)) ?_
  repeat (first | refine dp1 ?_ | refine dg1 ?_ | refine DrawW_nil ?_)
  repeat (first | refine stp ?_ | refine N_block_pass rfl ?_ | refine sp1 ?_ | refine sg1 ?_ | refine WL_nil ?_)
  refine rt2 [] ?_ ?_
  · refine congrArg (fun x => lv (.bool x)) ?_
    rw [rightD, Bool.eq_iff_iff]
    simp [Bool.cond_eq_ite] <;> omega
  · trivial
theorem rright_ok (y m d : Int) : Ct Try.prog 131 [dateA y m d] [] (lv (.bool (rightD y m d))) [] [] := by
  refine Ct_intro Try.func131 rfl rfl rfl rfl rfl (fun E hn hb => ?_)
  repeat (first | refine stp ?_ | refine N_block_pass rfl ?_ | refine sp1 ?_ | refine sg1 ?_ | refine WL_nil ?_)
  refine s_boxN rfl rfl rfl (by rw [hn]; rfl) rfl (by first | trivial | (simp; done) | (simp; omega) | (simp at *; done) | (simp at *; omega)) rfl rfl ?_
  repeat (first | refine stp ?_ | refine N_block_pass rfl ?_ | refine sp1 ?_ | refine sg1 ?_ | refine WL_nil ?_)
  refine W_drawW 23 (by kernel_rfl) (by kernel_rfl) (by kernel_rfl) (by rw [hn]; rfl) rfl rfl ?_
  repeat (first | refine dp1 ?_ | refine dg1 ?_ | refine DrawW_nil ?_)
  refine DrawW_cons rfl (ops_ofG rfl rfl (fun hG => opys_call (rdays_ok y m (by simp [Bool.cond_eq_ite] at hG; omega)) rfl rfl rfl (by first | exact hG | (first | trivial | (simp; done) | (simp; omega) | (simp at *; done) | (simp at *; omega))) rfl rfl rfl)) ?_
  repeat (first | refine dp1 ?_ | refine dg1 ?_ | refine DrawW_nil ?_)
  repeat (first | refine stp ?_ | refine N_block_pass rfl ?_ | refine sp1 ?_ | refine sg1 ?_ | refine WL_nil ?_)
  refine rt2 [] ?_ ?_
  · refine congrArg (fun x => lv (.bool x)) ?_
    rw [rightD, Bool.eq_iff_iff]
    simp [Bool.cond_eq_ite]
    try omega
  · trivial
theorem prightC_ok (y m d h i s : Int) : Ct Try.prog 129 [clkA y m d h i s] [] (lv (.bool (rightC y m d h i s))) [] [] := by
  have hr := pright_ok y m d
  unfold rightC
  generalize rightD y m d = R at *
  refine Ct_intro Try.func129 rfl rfl rfl rfl rfl (fun E hn hb => ?_)
  repeat (first | refine stp ?_ | refine N_block_pass rfl ?_ | refine sp1 ?_ | refine sg1 ?_ | refine WL_nil ?_)
  refine s_boxN rfl rfl rfl (by rw [hn]; rfl) rfl (by first | trivial | (simp; done) | (simp; omega) | (simp at *; done) | (simp at *; omega)) rfl rfl ?_
  repeat (first | refine stp ?_ | refine N_block_pass rfl ?_ | refine sp1 ?_ | refine sg1 ?_ | refine WL_nil ?_)
  refine s_call0 hr rfl rfl rfl (by rw [hn]; rfl) rfl rfl (by first | trivial | (simp; done) | (simp; omega) | (simp at *; done) | (simp at *; omega)) rfl rfl rfl ?_
  repeat (first | refine stp ?_ | refine N_block_pass rfl ?_ | refine sp1 ?_ | refine sg1 ?_ | refine WL_nil ?_)
  refine rt2 [] ?_ ?_
  · refine congrArg (fun x => lv (.bool x)) ?_
    rw [Bool.eq_iff_iff]
    cases R <;> simp [Bool.cond_eq_ite] <;> omega
  · trivial
theorem rrightC_ok (y m d h i s : Int) : Ct Try.prog 79 [clkA y m d h i s] [] (lv (.bool (rightC y m d h i s))) [] [] := by
  have hr := rright_ok y m d
  unfold rightC
  generalize rightD y m d = R at *
  refine Ct_intro Try.func79 rfl rfl rfl rfl rfl (fun E hn hb => ?_)
  repeat (first | refine stp ?_ | refine N_block_pass rfl ?_ | refine sp1 ?_ | refine sg1 ?_ | refine WL_nil ?_)
  refine s_boxN rfl rfl rfl (by rw [hn]; rfl) rfl (by first | trivial | (simp; done) | (simp; omega) | (simp at *; done) | (simp at *; omega)) rfl rfl ?_
  repeat (first | refine stp ?_ | refine N_block_pass rfl ?_ | refine sp1 ?_ | refine sg1 ?_ | refine WL_nil ?_)
  refine s_call0 hr rfl rfl rfl (by rw [hn]; rfl) rfl rfl (by first | trivial | (simp; done) | (simp; omega) | (simp at *; done) | (simp at *; omega)) rfl rfl rfl ?_
  repeat (first | refine stp ?_ | refine N_block_pass rfl ?_ | refine sp1 ?_ | refine sg1 ?_ | refine WL_nil ?_)
  refine rt2 [] ?_ ?_
  · refine congrArg (fun x => lv (.bool x)) ?_
    rw [Bool.eq_iff_iff]
    simp [Bool.cond_eq_ite]
  · trivial
theorem rstart_ok (y : Int) (hy : 0 ≤ y ∧ y ≤ 9999) : Ct Try.prog 166 [lv (.int .i64 y)] [] (lv (.int .i64 (yst y))) [] [] := by
  have e0 : -719528 + y / 400 * 146097 = yst (y / 400 * 400) := by unfold yst; omega
  have hk0 : 0 ≤ y / 400 * 400 ∧ y / 400 * 400 ≤ y := by omega
  refine Ct_intro Try.func166 rfl rfl rfl rfl rfl (fun E hn hb => ?_)
  repeat (first | refine stp ?_ | refine N_block_pass rfl ?_ | refine sp1 ?_ | refine sg1 ?_ | refine WL_nil ?_)
  rw [e0]
  generalize y / 400 * 400 = k0 at *
  refine W_weaken (St.le_of (l := [(0, lv (.int .i64 y)), (3, lv (.int .i64 (yst k0))), (4, lv (.int .i64 k0))]) (h := []) (by refine ⟨?_, ?_⟩ <;> (repeat' (first | exact trivial | exact rfl | refine ⟨?_, ?_⟩)) <;> first | exact rfl | (simp; done) | skip)) ?_
  refine W_loop (ι := {k : Int // 0 ≤ k ∧ k ≤ y}) (fun k => St.of [(0, lv (.int .i64 y)), (3, lv (.int .i64 (yst k.1))), (4, lv (.int .i64 k.1))] []) (fun k => (y - k.1).toNat) (fun k => ?_) ⟨k0, hk0⟩
  obtain ⟨k, hk⟩ := k
  dsimp only
  have hyk : -719528 ≤ yst k ∧ yst k ≤ 3000000 := by unfold yst; omega
  have hyr := ryear_ok k (by omega)
  have hl := lp_01 k
  have hs := yst_succ k
  repeat (first | refine stp ?_ | refine N_block_pass rfl ?_ | refine sp1 ?_ | refine sg1 ?_ | refine WL_nil ?_)
  refine W_cond rfl (by simp) (fun hc => ?_) (fun hc => ?_)
  · have hi2 : k < y := by simpa using hc
    repeat (first | refine stp ?_ | refine N_block_pass rfl ?_ | refine sp1 ?_ | refine sg1 ?_ | refine WL_nil ?_)
    refine s_call0 hyr rfl rfl rfl (by rw [hn]; rfl) rfl rfl (by first | trivial | (simp; done) | (simp; omega) | (simp at *; done) | (simp at *; omega)) rfl rfl rfl ?_
    repeat (first | refine stp ?_ | refine N_block_pass rfl ?_ | refine sp1 ?_ | refine sg1 ?_ | refine WL_nil ?_)
    refine N_round ⟨k + 1, by omega⟩ (by dsimp only; omega) (St.le_of ⟨⟨rfl, ?_, rfl⟩, trivial⟩)
    show lv (.int .i64 (yst k + (365 + lp k))) = lv (.int .i64 (yst (k + 1)))
    rw [hs, Int.add_assoc]
  · have hi2 : k = y := by simp at hc; omega
    subst hi2
    repeat (first | refine stp ?_ | refine N_block_pass rfl ?_ | refine sp1 ?_ | refine sg1 ?_ | refine WL_nil ?_)
    exact rt1 []
theorem rnumber_ok (y m d : Int) (hr : rightD y m d = true) : Ct Try.prog 132 [dateA y m d] [] (lv (.int .i64 (numD y m d))) [] [] := by
  simp only [rightD, Bool.and_eq_true, decide_eq_true_eq] at hr
  have hm := days_pos (y := y) (m := m) (by omega)
  have hst := rstart_ok y (by omega)
  have hd31 : d ≤ 31 := by
    have : daysN y m ≤ 31 := by
      have := lp_01 y
      unfold daysN; (repeat' split) <;> omega
    omega
  have hb0 : -719528 ≤ yst y ∧ yst y ≤ 3000000 := by unfold yst; omega
  refine Ct_intro Try.func132 rfl rfl rfl rfl rfl (fun E hn hb => ?_)
  repeat (first | refine stp ?_ | refine N_block_pass rfl ?_ | refine sp1 ?_ | refine sg1 ?_ | refine WL_nil ?_)
  refine s_boxN rfl rfl rfl (by rw [hn]; rfl) rfl (by first | trivial | (simp; done) | (simp; omega) | (simp at *; done) | (simp at *; omega)) rfl rfl ?_
  repeat (first | refine stp ?_ | refine N_block_pass rfl ?_ | refine sp1 ?_ | refine sg1 ?_ | refine WL_nil ?_)
  refine s_call0 hst rfl rfl rfl (by rw [hn]; rfl) rfl rfl (by first | trivial | (simp; done) | (simp; omega) | (simp at *; done) | (simp at *; omega)) rfl rfl rfl ?_
  repeat (first | refine stp ?_ | refine N_block_pass rfl ?_ | refine sp1 ?_ | refine sg1 ?_ | refine WL_nil ?_)
  refine W_weaken (St.le_of (l := [(1, .c (.ptr 65 0)), (3, lv (.int .i64 (yst y))), (4, lv (.int .i64 1))]) (h := [(65, .cells [.lf (.v (.int .i64 y)), .lf (.v (.int .i64 m)), .lf (.v (.int .i64 d))])]) (by refine ⟨?_, ?_⟩ <;> (repeat' (first | exact trivial | exact rfl | refine ⟨?_, ?_⟩)) <;> first | exact rfl | (simp; done) | skip)) ?_
  refine W_loop (ι := {s : Int × Int // 1 ≤ s.1 ∧ s.1 ≤ m ∧ s.2 = yst y + mst y s.1}) (fun s => St.of [(1, .c (.ptr 65 0)), (3, lv (.int .i64 s.1.2)), (4, lv (.int .i64 s.1.1))] [(65, .cells [.lf (.v (.int .i64 y)), .lf (.v (.int .i64 m)), .lf (.v (.int .i64 d))])]) (fun s => (m - s.1.1).toNat) (fun s => ?_) ⟨(1, yst y), by dsimp only; refine ⟨by omega, by omega, ?_⟩; simp [mst]⟩
  obtain ⟨⟨k, n⟩, hk1, hk2, hn0⟩ := s
  dsimp only at hk1 hk2 hn0 ⊢
  have hdk := rdays_ok y k (by omega)
  have hms := mst_succ y k (by omega)
  have hmn := mst_nonneg y k (by omega)
  have hme := mst_mono y (m := k) (k := 13) (by omega) (by omega) (by omega)
  rw [mst_end] at hme
  have hl := lp_01 y
  have hdn : 0 ≤ daysN y k := by unfold daysN; (repeat' split) <;> omega
  repeat (first | refine stp ?_ | refine N_block_pass rfl ?_ | refine sp1 ?_ | refine sg1 ?_ | refine WL_nil ?_)
  refine W_cond rfl (by simp) (fun hc => ?_) (fun hc => ?_)
  · have hi2 : k < m := by simpa using hc
    repeat (first | refine stp ?_ | refine N_block_pass rfl ?_ | refine sp1 ?_ | refine sg1 ?_ | refine WL_nil ?_)
    refine s_call0 hdk rfl rfl rfl (by rw [hn]; rfl) rfl rfl (by first | trivial | (simp; done) | (simp; omega) | (simp at *; done) | (simp at *; omega)) rfl rfl rfl ?_
    repeat (first | refine stp ?_ | refine N_block_pass rfl ?_ | refine sp1 ?_ | refine sg1 ?_ | refine WL_nil ?_)
    refine N_round ⟨(k + 1, n + daysN y k), by dsimp only; omega⟩ (by dsimp only; omega) (St.le_of ⟨⟨rfl, rfl, rfl⟩, rfl⟩)
  · have hi2 : k = m := by simp at hc; omega
    subst hi2
    subst hn0
    repeat (first | refine stp ?_ | refine N_block_pass rfl ?_ | refine sp1 ?_ | refine sg1 ?_ | refine WL_nil ?_)
    exact rt1 []
theorem rsecond_ok (y m d h i s : Int) (hr : rightC y m d h i s = true) : Ct Try.prog 80 [clkA y m d h i s] [] (lv (.int .i64 (secC y m d h i s))) [] [] := by
  simp only [rightC, Bool.and_eq_true, decide_eq_true_eq] at hr
  have hnum := rnumber_ok y m d (by simp [hr])
  have hb1 : -719528 ≤ numD y m d ∧ numD y m d ≤ 4000000 := by
    have hr1 := hr.1.1.1.1.1.1
    simp only [rightD, Bool.and_eq_true, decide_eq_true_eq] at hr1
    have := num_year (y := y) (m := m) (d := d) (by omega)
    unfold yst at this
    omega
  unfold secC
  generalize numD y m d = N at *
  refine Ct_intro Try.func80 rfl rfl rfl rfl rfl (fun E hn hb => ?_)
  repeat (first | refine stp ?_ | refine N_block_pass rfl ?_ | refine sp1 ?_ | refine sg1 ?_ | refine WL_nil ?_)
  refine s_boxN rfl rfl rfl (by rw [hn]; rfl) rfl (by first | trivial | (simp; done) | (simp; omega) | (simp at *; done) | (simp at *; omega)) rfl rfl ?_
  repeat (first | refine stp ?_ | refine N_block_pass rfl ?_ | refine sp1 ?_ | refine sg1 ?_ | refine WL_nil ?_)
  refine W_drawW 15 (by kernel_rfl) (by kernel_rfl) (by kernel_rfl) (by rw [hn]; rfl) rfl rfl ?_
  repeat (first | refine dp1 ?_ | refine dg1 ?_ | refine DrawW_nil ?_)
  refine DrawW_cons rfl (ops_of (opys_call hnum rfl rfl rfl (by first | trivial | (simp; done) | (simp; omega) | (simp at *; done) | (simp at *; omega)) rfl rfl rfl) rfl) ?_
  repeat (first | refine dp1 ?_ | refine dg1 ?_ | refine DrawW_nil ?_)
  repeat (first | refine stp ?_ | refine N_block_pass rfl ?_ | refine sp1 ?_ | refine sg1 ?_ | refine WL_nil ?_)
  exact rt1 []
end Go.Proofs.Ythalijmfhllgbaa

namespace Go.Proofs.Ythalijmfhllgbaa
set_option linter.unusedSimpArgs false
set_option linter.unusedVariables false
open Go.Sx Dt

set_option maxRecDepth 10000

theorem num_rng {y m d : Int} (hr : rightD y m d = true) : -719528 ≤ numD y m d ∧ numD y m d ≤ 2932896 := by
  simp only [rightD, Bool.and_eq_true, decide_eq_true_eq] at hr
  have h := num_year (y := y) (m := m) (d := d) (by omega)
  unfold yst at h
  omega
abbrev nR (r : Bool) (n : Int) : Av := .tup [lv (.int .i64 (if r then n else 0)), lv (.int .i64 (if r then 0 else 1))]
set_option maxHeartbeats 1000000 in
theorem pnumber_ok (y m d : Int) : Ct Try.prog 130 [dateA y m d] [] (nR (rightD y m d) (numD y m d)) [] [] := by
  have hR := pright_ok y m d
  by_cases hr : rightD y m d = true
  · rw [hr] at hR ⊢
    have hrr := hr
    simp only [rightD, Bool.and_eq_true, decide_eq_true_eq] at hr
    have hm := days_pos (y := y) (m := m) (by omega)
    have hN := pNum_eq (y := y) (m := m) (d := d) (by omega) hm
    have hrg := num_rng hrr
    have hd31 : d ≤ 31 := by
      have : daysN y m ≤ 31 := by
        have := lp_01 y
        unfold daysN; (repeat' split) <;> omega
      omega
    show Ct Try.prog 130 [dateA y m d] [] (.tup [lv (.int .i64 (numD y m d)), lv (.int .i64 0)]) [] []
    rw [← hN]
    have hpy : -1 ≤ pY y m ∧ pY y m ≤ 9999 := by unfold pY; split <;> omega
    have hpm : 0 ≤ pM m ∧ pM m ≤ 11 := by unfold pM; split <;> omega
    refine Ct_intro Try.func130 rfl rfl rfl rfl rfl (fun E hn hb => ?_)
    repeat (first | refine stp ?_ | refine N_block_pass rfl ?_ | refine sp1 ?_ | refine sg1 ?_ | refine WL_nil ?_)
    refine s_boxN rfl rfl rfl (by rw [hn]; rfl) rfl (by first | trivial | (simp; done) | (simp; omega) | (simp at *; done) | (simp at *; omega)) rfl rfl ?_
    repeat (first | refine stp ?_ | refine N_block_pass rfl ?_ | refine sp1 ?_ | refine sg1 ?_ | refine WL_nil ?_)
    refine s_call0 hR rfl rfl rfl (by rw [hn]; rfl) rfl rfl (by first | trivial | (simp; done) | (simp; omega) | (simp at *; done) | (simp at *; omega)) rfl rfl rfl ?_
    repeat (first | refine stp ?_ | refine N_block_pass rfl ?_ | refine sp1 ?_ | refine sg1 ?_ | refine WL_nil ?_)
    refine W_cond rfl (by simp) (fun hc => ?_) (fun hc => ?_)
    · simp at hc
    repeat (first | refine stp ?_ | refine N_block_pass rfl ?_ | refine sp1 ?_ | refine sg1 ?_ | refine WL_nil ?_)
    refine W_drawX [] (by kernel_rfl) (by kernel_rfl) (by rw [hn]; rfl) ?_
    repeat (first | refine DrawX_op rfl rfl rfl (ops_pure true rfl rfl (by first | trivial | (simp; done) | (simp; omega) | (simp at *; done) | (simp at *; omega))) ?_ | refine DrawX_op rfl rfl rfl (ops_pureG true rfl rfl rfl (by intro hG; first | trivial | (simp; done) | (simp; omega) | (simp at *; done) | (simp at *; omega))) ?_ | refine DrawX_fr rfl rfl rfl (fun _ => ops_pure true rfl rfl (by first | trivial | (simp; done) | (simp; omega) | (simp at *; done) | (simp at *; omega))) ?_ | refine DrawX_nil ?_)
    repeat (first | refine stp ?_ | refine N_block_pass rfl ?_ | refine sp1 ?_ | refine sg1 ?_ | refine WL_nil ?_)
    refine W_join (St.of [(1, .c (.ptr 65 0)), (4, lv (.int .i64 (pY y m))), (5, lv (.int .i64 (pM m)))] [(65, .cells [.lf (.v (.int .i64 y)), .lf (.v (.int .i64 m)), .lf (.v (.int .i64 d))])]) ?_ ?_
    · refine W_cond rfl (by simp) (fun hc => ?_) (fun hc => ?_)
      · have h3 : m - 3 < 0 := by simpa using hc
        have e1 : pY y m = y - 1 := if_pos h3
        have e2 : pM m = m - 3 + 12 := if_pos h3
        rw [e1, e2]
        repeat (first | refine stp ?_ | refine N_block_pass rfl ?_ | refine sp1 ?_ | refine sg1 ?_ | refine WL_nil ?_)
        (refine N_join ?_; refine St.le_of ⟨?_, ?_⟩ <;> (repeat' (first | exact trivial | exact rfl | refine ⟨?_, ?_⟩)) <;> first | exact rfl | (simp; done) | skip)
      · have h3 : ¬ m - 3 < 0 := by simpa using hc
        have e1 : pY y m = y := if_neg h3
        have e2 : pM m = m - 3 := if_neg h3
        rw [e1, e2]
        repeat (first | refine stp ?_ | refine N_block_pass rfl ?_ | refine sp1 ?_ | refine sg1 ?_ | refine WL_nil ?_)
        (refine N_join ?_; refine St.le_of ⟨?_, ?_⟩ <;> (repeat' (first | exact trivial | exact rfl | refine ⟨?_, ?_⟩)) <;> first | exact rfl | (simp; done) | skip)
    generalize pY y m = Y at *
    generalize pM m = M at *
    clear hN
    by_cases hY : Y < 0
    · have : Y = -1 := by omega
      subst this
      repeat (first | refine stp ?_ | refine N_block_pass rfl ?_ | refine sp1 ?_ | refine sg1 ?_ | refine WL_nil ?_)
      refine sp false rfl rfl (by rw [hn]; rfl) (by first | trivial | (simp; done) | (simp; omega) | (simp at *; done) | (simp at *; omega)) ?_
      repeat (first | refine stp ?_ | refine N_block_pass rfl ?_ | refine sp1 ?_ | refine sg1 ?_ | refine WL_nil ?_)
      refine W_cond rfl (by simp) (fun hc => ?_) (fun hc => ?_)
      · repeat (first | refine stp ?_ | refine N_block_pass rfl ?_ | refine sp1 ?_ | refine sg1 ?_ | refine WL_nil ?_)
        refine rt2 [] ?_ ?_
        · rfl
        · trivial
      · simp at hc
    · repeat (first | refine stp ?_ | refine N_block_pass rfl ?_ | refine sp1 ?_ | refine sg1 ?_ | refine WL_nil ?_)
      refine W_cond rfl (by simp) (fun hc => ?_) (fun hc => ?_)
      · simp at hc; omega
      · repeat (first | refine stp ?_ | refine N_block_pass rfl ?_ | refine sp1 ?_ | refine sg1 ?_ | refine WL_nil ?_)
        have eE : pE Y = Y / 400 := if_neg hY
        unfold pNum
        rw [eE]
        refine rt2 [] ?_ ?_
        · rfl
        · trivial
  · have hr : rightD y m d = false := by simpa using hr
    rw [hr] at hR ⊢
    refine Ct_intro Try.func130 rfl rfl rfl rfl rfl (fun E hn hb => ?_)
    repeat (first | refine stp ?_ | refine N_block_pass rfl ?_ | refine sp1 ?_ | refine sg1 ?_ | refine WL_nil ?_)
    refine s_boxN rfl rfl rfl (by rw [hn]; rfl) rfl (by first | trivial | (simp; done) | (simp; omega) | (simp at *; done) | (simp at *; omega)) rfl rfl ?_
    repeat (first | refine stp ?_ | refine N_block_pass rfl ?_ | refine sp1 ?_ | refine sg1 ?_ | refine WL_nil ?_)
    refine s_call0 hR rfl rfl rfl (by rw [hn]; rfl) rfl rfl (by first | trivial | (simp; done) | (simp; omega) | (simp at *; done) | (simp at *; omega)) rfl rfl rfl ?_
    repeat (first | refine stp ?_ | refine N_block_pass rfl ?_ | refine sp1 ?_ | refine sg1 ?_ | refine WL_nil ?_)
    refine W_cond rfl (by simp) (fun hc => ?_) (fun hc => ?_)
    · repeat (first | refine stp ?_ | refine N_block_pass rfl ?_ | refine sp1 ?_ | refine sg1 ?_ | refine WL_nil ?_)
      exact rt1 []
    · simp at hc
theorem psecond_ok (y m d h i s : Int) : Ct Try.prog 77 [clkA y m d h i s] [] (nR (rightC y m d h i s) (secC y m d h i s)) [] [] := by
  have hR := prightC_ok y m d h i s
  have hN := pnumber_ok y m d
  by_cases hr : rightC y m d h i s = true
  · rw [hr] at hR ⊢
    simp only [rightC, Bool.and_eq_true, decide_eq_true_eq] at hr
    have hrg := num_rng hr.1.1.1.1.1.1
    have hs : secC y m d h i s = numD y m d * 86400 + h * 3600 + i * 60 + s := by unfold secC; omega
    rw [hr.1.1.1.1.1.1] at hN
    rw [hs]
    generalize numD y m d = N at *
    refine Ct_intro Try.func77 rfl rfl rfl rfl rfl (fun E hn hb => ?_)
    repeat (first | refine stp ?_ | refine N_block_pass rfl ?_ | refine sp1 ?_ | refine sg1 ?_ | refine WL_nil ?_)
    refine s_boxN rfl rfl rfl (by rw [hn]; rfl) rfl (by first | trivial | (simp; done) | (simp; omega) | (simp at *; done) | (simp at *; omega)) rfl rfl ?_
    repeat (first | refine stp ?_ | refine N_block_pass rfl ?_ | refine sp1 ?_ | refine sg1 ?_ | refine WL_nil ?_)
    refine s_call0 hR rfl rfl rfl (by rw [hn]; rfl) rfl rfl (by first | trivial | (simp; done) | (simp; omega) | (simp at *; done) | (simp at *; omega)) rfl rfl rfl ?_
    repeat (first | refine stp ?_ | refine N_block_pass rfl ?_ | refine sp1 ?_ | refine sg1 ?_ | refine WL_nil ?_)
    refine W_cond rfl (by simp) (fun hc => ?_) (fun hc => ?_)
    · simp at hc
    repeat (first | refine stp ?_ | refine N_block_pass rfl ?_ | refine sp1 ?_ | refine sg1 ?_ | refine WL_nil ?_)
    refine s_call0 hN rfl rfl rfl (by rw [hn]; rfl) rfl rfl (by first | trivial | (simp; done) | (simp; omega) | (simp at *; done) | (simp at *; omega)) rfl rfl rfl ?_
    repeat (first | refine stp ?_ | refine N_block_pass rfl ?_ | refine sp1 ?_ | refine sg1 ?_ | refine WL_nil ?_)
    exact rt1 []
  · have hr : rightC y m d h i s = false := by simpa using hr
    rw [hr] at hR ⊢
    refine Ct_intro Try.func77 rfl rfl rfl rfl rfl (fun E hn hb => ?_)
    repeat (first | refine stp ?_ | refine N_block_pass rfl ?_ | refine sp1 ?_ | refine sg1 ?_ | refine WL_nil ?_)
    refine s_boxN rfl rfl rfl (by rw [hn]; rfl) rfl (by first | trivial | (simp; done) | (simp; omega) | (simp at *; done) | (simp at *; omega)) rfl rfl ?_
    repeat (first | refine stp ?_ | refine N_block_pass rfl ?_ | refine sp1 ?_ | refine sg1 ?_ | refine WL_nil ?_)
    refine s_call0 hR rfl rfl rfl (by rw [hn]; rfl) rfl rfl (by first | trivial | (simp; done) | (simp; omega) | (simp at *; done) | (simp at *; omega)) rfl rfl rfl ?_
    repeat (first | refine stp ?_ | refine N_block_pass rfl ?_ | refine sp1 ?_ | refine sg1 ?_ | refine WL_nil ?_)
    refine W_cond rfl (by simp) (fun hc => ?_) (fun hc => ?_)
    · repeat (first | refine stp ?_ | refine N_block_pass rfl ?_ | refine sp1 ?_ | refine sg1 ?_ | refine WL_nil ?_)
      exact rt1 []
    · simp at hc
set_option maxHeartbeats 1000000 in
theorem pof_ok (n : Int) (h0 : -719528 ≤ n) (h1 : n ≤ 2932896) : Ct Try.prog 134 [lv (.int .i64 n)] [] (.tup [dateA (ofY n) (ofM n) (ofD n), lv (.int .i64 0)]) [] [] := by
  have hrE : oE (n + 719468) = (n + 719468) / 146097 := by unfold oE; split <;> omega
  have hr0 : 0 ≤ oR (n + 719468) ∧ oR (n + 719468) ≤ 146096 := by unfold oR; rw [hrE]; omega
  have hEb : -1 ≤ oE (n + 719468) ∧ oE (n + 719468) ≤ 24 := by rw [hrE]; omega
  have hrd : oR (n + 719468) = n + 719468 - oE (n + 719468) * 146097 := rfl
  obtain ⟨y0, y1, y2, y3⟩ := oY_spec hr0.1 hr0.2
  have hyd : oY (oR (n + 719468)) = (oR (n + 719468) - oR (n + 719468) / 1460 + oR (n + 719468) / 36524 - oR (n + 719468) / 146096) / 365 := rfl
  have hdd : oD (oR (n + 719468)) = oR (n + 719468) - (365 * oY (oR (n + 719468)) + oY (oR (n + 719468)) / 4 - oY (oR (n + 719468)) / 100) := rfl
  have hmd : oM (oD (oR (n + 719468))) = (5 * oD (oR (n + 719468)) + 2) / 153 := rfl
  have hdb : 0 ≤ oD (oR (n + 719468)) ∧ oD (oR (n + 719468)) ≤ 400 := by
    have : sY 399 = 145731 := by decide
    have hs : sY (oY (oR (n + 719468)) + 1) ≤ sY (oY (oR (n + 719468))) + 366 := by unfold sY; omega
    have hd' : oD (oR (n + 719468)) = oR (n + 719468) - sY (oY (oR (n + 719468))) := rfl
    rcases y3 with y3 | ⟨y3, y4⟩
    · omega
    · rw [hd', y4, y3, this]; omega
  have eY : ofY n = if 12 < oM (oD (oR (n + 719468))) + 3 then oY (oR (n + 719468)) + 400 * oE (n + 719468) + 1 else oY (oR (n + 719468)) + 400 * oE (n + 719468) := rfl
  have eM : ofM n = if 12 < oM (oD (oR (n + 719468))) + 3 then oM (oD (oR (n + 719468))) + 3 - 12 else oM (oD (oR (n + 719468))) + 3 := rfl
  have eD : ofD n = oD (oR (n + 719468)) - (153 * oM (oD (oR (n + 719468))) + 2) / 5 + 1 := rfl
  have hmb : 0 ≤ oM (oD (oR (n + 719468))) ∧ oM (oD (oR (n + 719468))) ≤ 20 := by rw [hmd]; omega
  have hEd : oE (n + 719468) = if n + 719468 < 0 then -1 else (n + 719468) / 146097 := rfl
  generalize oM (oD (oR (n + 719468))) = M at *
  generalize oD (oR (n + 719468)) = D at *
  generalize oY (oR (n + 719468)) = Y at *
  generalize oR (n + 719468) = R at *
  generalize oE (n + 719468) = X at *
  generalize ofY n = y at *
  generalize ofM n = m at *
  generalize ofD n = d at *
  clear y2 y3 hrE
  refine Ct_intro Try.func134 rfl rfl rfl rfl rfl (fun E hn hb => ?_)
  repeat (first | refine stp ?_ | refine N_block_pass rfl ?_ | refine sp1 ?_ | refine sg1 ?_ | refine WL_nil ?_)
  refine s_allocN rfl rfl rfl (by rw [hn]; rfl) rfl zok120 ?_
  repeat (first | refine stp ?_ | refine N_block_pass rfl ?_ | refine sp1 ?_ | refine sg1 ?_ | refine WL_nil ?_)
  refine W_cond rfl (by simp) (fun hc => ?_) (fun hc => ?_)
  · exfalso
    simp [Bool.cond_eq_ite] at hc
    omega
  clear hc
  repeat (first | refine stp ?_ | refine N_block_pass rfl ?_ | refine sp1 ?_ | refine sg1 ?_ | refine WL_nil ?_)
  refine sp false rfl rfl (by rw [hn]; rfl) (by first | trivial | (simp; done) | (simp; omega) | (simp at *; done) | (simp at *; omega)) ?_
  repeat (first | refine stp ?_ | refine N_block_pass rfl ?_ | refine sp1 ?_ | refine sg1 ?_ | refine WL_nil ?_)
  refine W_join (St.of [(0, lv (.int .i64 (n + 719468))), (2, .c (.ptr 66 0)), (4, lv (.int .i64 X))] [(66, .cells [.lf (.v (.int .i64 0)), .lf (.v (.int .i64 0)), .lf (.v (.int .i64 0))])]) ?_ ?_
  · refine W_cond rfl (by simp) (fun hc => ?_) (fun hc => ?_)
    · have h3 : n + 719468 < 0 := by simpa using hc
      rw [if_pos h3] at hEd
      subst hEd
      repeat (first | refine stp ?_ | refine N_block_pass rfl ?_ | refine sp1 ?_ | refine sg1 ?_ | refine WL_nil ?_)
      (refine N_join ?_; refine St.le_of ⟨?_, ?_⟩ <;> (repeat' (first | exact trivial | exact rfl | refine ⟨?_, ?_⟩)) <;> first | exact rfl | (simp; done) | skip)
    · have h3 : ¬ n + 719468 < 0 := by simpa using hc
      rw [if_neg h3] at hEd
      have e4 : IntKind.i64.wrap ((n + 719468).tdiv 146097) = X := by
        rw [Int.tdiv_eq_ediv_of_nonneg (by omega), ← hEd]
        exact wrap_i64 X (by omega)
      rw [e4]
      repeat (first | refine stp ?_ | refine N_block_pass rfl ?_ | refine sp1 ?_ | refine sg1 ?_ | refine WL_nil ?_)
      (refine N_join ?_; refine St.le_of ⟨?_, ?_⟩ <;> (repeat' (first | exact trivial | exact rfl | refine ⟨?_, ?_⟩)) <;> first | exact rfl | (simp; done) | skip)
  clear hEd
  iterate 19 (first | refine stp ?_ | refine N_block_pass rfl ?_ | refine sp1 ?_ | refine sg1 ?_ | refine WL_nil ?_)
  rw [← hrd]
  iterate 12 (first | refine stp ?_ | refine N_block_pass rfl ?_ | refine sp1 ?_ | refine sg1 ?_ | refine WL_nil ?_)
  rw [← hyd]
  iterate 12 (first | refine stp ?_ | refine N_block_pass rfl ?_ | refine sp1 ?_ | refine sg1 ?_ | refine WL_nil ?_)
  rw [← hdd]
  iterate 7 (first | refine stp ?_ | refine N_block_pass rfl ?_ | refine sp1 ?_ | refine sg1 ?_ | refine WL_nil ?_)
  rw [← hmd]
  repeat (first | refine stp ?_ | refine N_block_pass rfl ?_ | refine sp1 ?_ | refine sg1 ?_ | refine WL_nil ?_)
  refine s_allocN rfl rfl rfl (by rw [hn]; rfl) rfl zok120 ?_
  refine s_storeN rfl rfl rfl rfl rfl (by first | trivial | (simp; done) | (simp; omega) | (simp at *; done) | (simp at *; omega)) rfl rfl rfl (by rw [cellsOf120]; rfl) (by rw [info120]; rfl) rfl rfl ?_
  repeat (first | refine stp ?_ | refine N_block_pass rfl ?_ | refine sp1 ?_ | refine sg1 ?_ | refine WL_nil ?_)
  refine W_cond rfl (by simp) (fun hc => ?_) (fun hc => ?_)
  · have h3 : 12 < M + 3 := by simpa using hc
    rw [if_pos h3] at eY eM
    subst eY eM eD
    repeat (first | refine stp ?_ | refine N_block_pass rfl ?_ | refine sp1 ?_ | refine sg1 ?_ | refine WL_nil ?_)
    refine s_storeN rfl rfl rfl rfl rfl (by first | trivial | (simp; done) | (simp; omega) | (simp at *; done) | (simp at *; omega)) rfl rfl rfl (by rw [cellsOf3]; rfl) (by rw [info3]; rfl) rfl rfl ?_
    repeat (first | refine stp ?_ | refine N_block_pass rfl ?_ | refine sp1 ?_ | refine sg1 ?_ | refine WL_nil ?_)
    refine s_storeN rfl rfl rfl rfl rfl (by first | trivial | (simp; done) | (simp; omega) | (simp at *; done) | (simp at *; omega)) rfl rfl rfl (by rw [cellsOf3]; rfl) (by rw [info3]; rfl) rfl rfl ?_
    repeat (first | refine stp ?_ | refine N_block_pass rfl ?_ | refine sp1 ?_ | refine sg1 ?_ | refine WL_nil ?_)
    refine s_storeN rfl rfl rfl rfl rfl (by first | trivial | (simp; done) | (simp; omega) | (simp at *; done) | (simp at *; omega)) rfl rfl rfl (by rw [cellsOf120]; rfl) (by rw [info120]; rfl) rfl rfl ?_
    repeat (first | refine stp ?_ | refine N_block_pass rfl ?_ | refine sp1 ?_ | refine sg1 ?_ | refine WL_nil ?_)
    exact rt1 []
  · have h3 : ¬ 12 < M + 3 := by simpa using hc
    rw [if_neg h3] at eY eM
    subst eY eM eD
    repeat (first | refine stp ?_ | refine N_block_pass rfl ?_ | refine sp1 ?_ | refine sg1 ?_ | refine WL_nil ?_)
    refine s_storeN rfl rfl rfl rfl rfl (by first | trivial | (simp; done) | (simp; omega) | (simp at *; done) | (simp at *; omega)) rfl rfl rfl (by rw [cellsOf120]; rfl) (by rw [info120]; rfl) rfl rfl ?_
    repeat (first | refine stp ?_ | refine N_block_pass rfl ?_ | refine sp1 ?_ | refine sg1 ?_ | refine WL_nil ?_)
    exact rt1 []
end Go.Proofs.Ythalijmfhllgbaa

namespace Go.Proofs.Ythalijmfhllgbaa
set_option linter.unusedSimpArgs false
set_option linter.unusedVariables false
open Go.Sx Dt

set_option maxRecDepth 10000

abbrev i64c (x : Int) : Cell := .lf (.v (.int .i64 x))
end Go.Proofs.Ythalijmfhllgbaa

/-
  Chapter 03: texts as numbers, the program's way. The conditions: rows of at most a hundred thousand bytes.
-/
import Derived.Test.YthalijmfhllgbaaD5
import Derived.Test.YthalijmfhllgbaaC12
import Derived.Test.YthalijmfhllgbaaD1
namespace Go.Proofs.Ythalijmfhllgbaa
set_option linter.unusedSimpArgs false
set_option linter.unusedVariables false
open Go.Sx Dt

set_option maxRecDepth 10000

/-- Is there a moment? Which? -/
def atB (s : Int) : Bool := decide (-62167219200 ≤ s) && decide (s ≤ 253402300799)
abbrev atC (s : Int) : Av := clkA (ofY (s / 86400)) (ofM (s / 86400)) (ofD (s / 86400)) (s % 86400 / 3600) (s % 86400 / 60 % 60) (s % 86400 % 60)
abbrev clk0 : Av := clkA 0 0 0 0 0 0
theorem at_rng {s : Int} (h : atB s = true) : -62167219200 ≤ s ∧ s ≤ 253402300799 := by simpa [atB] using h
theorem pat_ok (s : Int) (h : atB s = true) : Ct Try.prog 82 [lv (.int .i64 s)] [] (.tup [atC s, lv (.int .i64 0)]) [] [] := by
  have hb1 := at_rng h
  have hof := pof_ok (s / 86400) (by omega) (by omega)
  have hQ : IntKind.i64.wrap (s.tdiv 86400) = if s < 0 then -(-s / 86400) else s / 86400 := by
    split
    · rename_i h0
      have := tdiv_neg (-s) 86400 (by omega) (by decide)
      rw [Int.neg_neg] at this
      rw [this]
      exact wrap_i64 _ (by omega)
    · rename_i h0
      rw [Int.tdiv_eq_ediv_of_nonneg (by omega)]
      exact wrap_i64 _ (by omega)
  have hT : s.tmod 86400 = if s < 0 then -(-s % 86400) else s % 86400 := by
    split
    · rename_i h0
      have h2 : s.tmod 86400 = -((-s).tmod 86400) := by
        have h3 := Int.neg_tmod (-s) 86400
        rwa [Int.neg_neg] at h3
      rw [h2, Int.tmod_eq_emod_of_nonneg (a := -s) (by omega)]
    · rename_i h0
      exact Int.tmod_eq_emod_of_nonneg (by omega)
  have hqt : IntKind.i64.wrap (s.tdiv 86400) = s / 86400 ∧ s.tmod 86400 = s % 86400 ∧ 0 ≤ s % 86400 ∨ IntKind.i64.wrap (s.tdiv 86400) = s / 86400 + 1 ∧ s.tmod 86400 = s % 86400 - 86400 ∧ s % 86400 - 86400 < 0 := by
    rw [hQ, hT]
    split <;> omega
  have hr0 : 0 ≤ s % 86400 ∧ s % 86400 < 86400 := by omega
  have hn0 : -719528 ≤ s / 86400 ∧ s / 86400 ≤ 2932896 := by omega
  clear hQ hT
  unfold atC
  refine Ct_intro Try.func82 rfl rfl rfl rfl rfl (fun E hn hb => ?_)
  repeat (first | refine stp ?_ | refine N_block_pass rfl ?_ | refine sp1 ?_ | refine sg1 ?_ | refine WL_nil ?_)
  refine s_allocN rfl rfl rfl (by rw [hn]; rfl) rfl zok122 ?_
  repeat (first | refine stp ?_ | refine N_block_pass rfl ?_ | refine sp1 ?_ | refine sg1 ?_ | refine WL_nil ?_)
  refine W_cond rfl (by simp) (fun hc => ?_) (fun hc => ?_)
  · exfalso
    simp [Bool.cond_eq_ite] at hc
    omega
  clear hc
  repeat (first | refine stp ?_ | refine N_block_pass rfl ?_ | refine sp1 ?_ | refine sg1 ?_ | refine WL_nil ?_)
  refine sp false rfl rfl (by rw [hn]; rfl) (by first | trivial | (simp; done) | (simp; omega) | (simp at *; done) | (simp at *; omega)) ?_
  repeat (first | refine stp ?_ | refine N_block_pass rfl ?_ | refine sp1 ?_ | refine sg1 ?_ | refine WL_nil ?_)
  refine sp false rfl rfl (by rw [hn]; rfl) (by first | trivial | (simp; done) | (simp; omega) | (simp at *; done) | (simp at *; omega)) ?_
  repeat (first | refine stp ?_ | refine N_block_pass rfl ?_ | refine sp1 ?_ | refine sg1 ?_ | refine WL_nil ?_)
  generalize IntKind.i64.wrap (s.tdiv 86400) = Q at *
  generalize s.tmod 86400 = T at *
  generalize s % 86400 = r at *
  generalize s / 86400 = n at *
  generalize ofY n = y at *
  generalize ofM n = m at *
  generalize ofD n = d at *
  refine W_join (St.of [(2, .c (.ptr 66 0)), (4, lv (.int .i64 n)), (5, lv (.int .i64 r))] [(66, .cells [i64c 0, i64c 0, i64c 0, i64c 0, i64c 0, i64c 0])]) ?_ ?_
  · refine W_cond rfl (by simp) (fun hc => ?_) (fun hc => ?_)
    · have hh : Q = n + 1 ∧ T = r - 86400 := by simp at hc; omega
      obtain ⟨rfl, rfl⟩ := hh
      repeat (first | refine stp ?_ | refine N_block_pass rfl ?_ | refine sp1 ?_ | refine sg1 ?_ | refine WL_nil ?_)
      rw [Int.add_sub_cancel, Int.sub_add_cancel]
      (refine N_join ?_; refine St.le_of ⟨?_, ?_⟩ <;> (repeat' (first | exact trivial | exact rfl | refine ⟨?_, ?_⟩)) <;> first | exact rfl | (simp; done) | skip)
    · have hh : Q = n ∧ T = r := by simp at hc; omega
      obtain ⟨rfl, rfl⟩ := hh
      repeat (first | refine stp ?_ | refine N_block_pass rfl ?_ | refine sp1 ?_ | refine sg1 ?_ | refine WL_nil ?_)
      (refine N_join ?_; refine St.le_of ⟨?_, ?_⟩ <;> (repeat' (first | exact trivial | exact rfl | refine ⟨?_, ?_⟩)) <;> first | exact rfl | (simp; done) | skip)
  repeat (first | refine stp ?_ | refine N_block_pass rfl ?_ | refine sp1 ?_ | refine sg1 ?_ | refine WL_nil ?_)
  refine s_call0 hof rfl rfl rfl (by rw [hn]; rfl) rfl rfl (by first | trivial | (simp; done) | (simp; omega) | (simp at *; done) | (simp at *; omega)) rfl rfl rfl ?_
  repeat (first | refine stp ?_ | refine N_block_pass rfl ?_ | refine sp1 ?_ | refine sg1 ?_ | refine WL_nil ?_)
  refine s_allocN rfl rfl rfl (by rw [hn]; rfl) rfl zok120 ?_
  refine s_storeN rfl rfl rfl rfl rfl (by first | trivial | (simp; done) | (simp; omega) | (simp at *; done) | (simp at *; omega)) rfl rfl rfl (by rw [cellsOf120]; rfl) (by rw [info120]; rfl) rfl rfl ?_
  repeat (first | refine stp ?_ | refine N_block_pass rfl ?_ | refine sp1 ?_ | refine sg1 ?_ | refine WL_nil ?_)
  refine s_storeN rfl rfl rfl rfl rfl (by first | trivial | (simp; done) | (simp; omega) | (simp at *; done) | (simp at *; omega)) rfl rfl rfl (by rw [cellsOf122]; rfl) (by rw [info122]; rfl) rfl rfl ?_
  repeat (first | refine stp ?_ | refine N_block_pass rfl ?_ | refine sp1 ?_ | refine sg1 ?_ | refine WL_nil ?_)
  refine N_weaken (St.le_of (l := [(2, .c (.ptr 66 0)), (3, lv (.int .i64 0))]) (h := [(66, .cells [i64c y, i64c m, i64c d, i64c (r / 3600), i64c (r / 60 % 60), i64c (r % 60)])]) ⟨⟨rfl, rfl⟩, rfl⟩) ?_
  exact rt1 [] rfl (hf := by rw [cellsOf122]; exact ⟨rfl, trivial, trivial, rfl⟩)
theorem pat_err (s : Int) (h : atB s = false) : Ct Try.prog 82 [lv (.int .i64 s)] [] (.tup [clk0, lv (.int .i64 1)]) [] [] := by
  refine Ct_intro Try.func82 rfl rfl rfl rfl rfl (fun E hn hb => ?_)
  repeat (first | refine stp ?_ | refine N_block_pass rfl ?_ | refine sp1 ?_ | refine sg1 ?_ | refine WL_nil ?_)
  refine s_allocN rfl rfl rfl (by rw [hn]; rfl) rfl zok122 ?_
  repeat (first | refine stp ?_ | refine N_block_pass rfl ?_ | refine sp1 ?_ | refine sg1 ?_ | refine WL_nil ?_)
  refine W_cond rfl (by simp) (fun hc => ?_) (fun hc => ?_)
  · repeat (first | refine stp ?_ | refine N_block_pass rfl ?_ | refine sp1 ?_ | refine sg1 ?_ | refine WL_nil ?_)
    refine s_storeN rfl rfl rfl rfl rfl (by first | trivial | (simp; done) | (simp; omega) | (simp at *; done) | (simp at *; omega)) rfl rfl rfl (by rw [cellsOf122]; rfl) (by rw [info122]; rfl) rfl rfl ?_
    repeat (first | refine stp ?_ | refine N_block_pass rfl ?_ | refine sp1 ?_ | refine sg1 ?_ | refine WL_nil ?_)
    exact rt1 [] rfl (hf := by rw [cellsOf122]; exact ⟨rfl, trivial, trivial, rfl⟩)
  · exfalso
    simp [Bool.cond_eq_ite] at hc
    simp [atB] at h
    omega
theorem rat_ok (s : Int) (h : atB s = true) : Ct Try.prog 86 [lv (.int .i64 s)] [] (.tup [atC s, lv (.bool true)]) [] [] := by
  have hb1 := at_rng h
  have hof := rof_ok (s / 86400) (by omega) (by omega)
  have e1 : (s - -62167219200) / 86400 - 719528 = s / 86400 := by omega
  have e2 : (s - -62167219200) % 86400 = s % 86400 := by omega
  have e3 : s % 86400 % 3600 / 60 = s % 86400 / 60 % 60 := by omega
  have hr0 : 0 ≤ s % 86400 ∧ s % 86400 < 86400 := by omega
  unfold atC
  refine Ct_intro Try.func86 rfl rfl rfl rfl rfl (fun E hn hb => ?_)
  repeat (first | refine stp ?_ | refine N_block_pass rfl ?_ | refine sp1 ?_ | refine sg1 ?_ | refine WL_nil ?_)
  refine s_allocN rfl rfl rfl (by rw [hn]; rfl) rfl zok126 ?_
  repeat (first | refine stp ?_ | refine N_block_pass rfl ?_ | refine sp1 ?_ | refine sg1 ?_ | refine WL_nil ?_)
  refine W_cond rfl (by simp) (fun hc => ?_) (fun hc => ?_)
  · exfalso
    simp [Bool.cond_eq_ite] at hc
    omega
  clear hc
  repeat (first | refine stp ?_ | refine N_block_pass rfl ?_ | refine sp1 ?_ | refine sg1 ?_ | refine WL_nil ?_)
  rw [e1]
  generalize s / 86400 = n at *
  generalize ofY n = y at *
  generalize ofM n = m at *
  generalize ofD n = d at *
  refine s_call0 hof rfl rfl rfl (by rw [hn]; rfl) rfl rfl (by first | trivial | (simp; done) | (simp; omega) | (simp at *; done) | (simp at *; omega)) rfl rfl rfl ?_
  repeat (first | refine stp ?_ | refine N_block_pass rfl ?_ | refine sp1 ?_ | refine sg1 ?_ | refine WL_nil ?_)
  refine s_allocN rfl rfl rfl (by rw [hn]; rfl) rfl zok124 ?_
  refine s_storeN rfl rfl rfl rfl rfl (by first | trivial | (simp; done) | (simp; omega) | (simp at *; done) | (simp at *; omega)) rfl rfl rfl (by rw [cellsOf124]; rfl) (by rw [info124]; rfl) rfl rfl ?_
  repeat (first | refine stp ?_ | refine N_block_pass rfl ?_ | refine sp1 ?_ | refine sg1 ?_ | refine WL_nil ?_)
  rw [e2]
  repeat (first | refine stp ?_ | refine N_block_pass rfl ?_ | refine sp1 ?_ | refine sg1 ?_ | refine WL_nil ?_)
  rw [e3]
  refine s_storeN rfl rfl rfl rfl rfl (by first | trivial | (simp; done) | (simp; omega) | (simp at *; done) | (simp at *; omega)) rfl rfl rfl (by rw [cellsOf126]; rfl) (by rw [info126]; rfl) rfl rfl ?_
  repeat (first | refine stp ?_ | refine N_block_pass rfl ?_ | refine sp1 ?_ | refine sg1 ?_ | refine WL_nil ?_)
  generalize s % 86400 = r at *
  refine N_weaken (St.le_of (l := [(2, .c (.ptr 66 0)), (3, lv (.bool true))]) (h := [(66, .cells [i64c y, i64c m, i64c d, i64c (r / 3600), i64c (r / 60 % 60), i64c (r % 60)])]) ⟨⟨rfl, rfl⟩, rfl⟩) ?_
  exact rt1 [] rfl (hf := by rw [cellsOf126]; exact ⟨rfl, trivial, trivial, rfl⟩)
theorem rat_err (s : Int) (h : atB s = false) : Ct Try.prog 86 [lv (.int .i64 s)] [] (.tup [clk0, lv (.bool false)]) [] [] := by
  refine Ct_intro Try.func86 rfl rfl rfl rfl rfl (fun E hn hb => ?_)
  repeat (first | refine stp ?_ | refine N_block_pass rfl ?_ | refine sp1 ?_ | refine sg1 ?_ | refine WL_nil ?_)
  refine s_allocN rfl rfl rfl (by rw [hn]; rfl) rfl zok126 ?_
  repeat (first | refine stp ?_ | refine N_block_pass rfl ?_ | refine sp1 ?_ | refine sg1 ?_ | refine WL_nil ?_)
  refine W_cond rfl (by simp) (fun hc => ?_) (fun hc => ?_)
  · repeat (first | refine stp ?_ | refine N_block_pass rfl ?_ | refine sp1 ?_ | refine sg1 ?_ | refine WL_nil ?_)
    refine s_storeN rfl rfl rfl rfl rfl (by first | trivial | (simp; done) | (simp; omega) | (simp at *; done) | (simp at *; omega)) rfl rfl rfl (by rw [cellsOf126]; rfl) (by rw [info126]; rfl) rfl rfl ?_
    repeat (first | refine stp ?_ | refine N_block_pass rfl ?_ | refine sp1 ?_ | refine sg1 ?_ | refine WL_nil ?_)
    exact rt1 [] rfl (hf := by rw [cellsOf126]; exact ⟨rfl, trivial, trivial, rfl⟩)
  · exfalso
    simp [Bool.cond_eq_ite] at hc
    simp [atB] at h
    omega
/-- The moment of a second is right, and its second is it. -/
theorem at_right {s : Int} (h : atB s = true) : rightC (ofY (s / 86400)) (ofM (s / 86400)) (ofD (s / 86400)) (s % 86400 / 3600) (s % 86400 / 60 % 60) (s % 86400 % 60) = true
    ∧ secC (ofY (s / 86400)) (ofM (s / 86400)) (ofD (s / 86400)) (s % 86400 / 3600) (s % 86400 / 60 % 60) (s % 86400 % 60) = s := by
  have hb1 := at_rng h
  obtain ⟨h1, h2⟩ := of_spec (n := s / 86400) (by omega) (by omega)
  refine ⟨?_, ?_⟩
  · simp only [rightC, h1, Bool.true_and, Bool.and_eq_true, decide_eq_true_eq]
    omega
  · unfold secC
    rw [h2]
    omega
end Go.Proofs.Ythalijmfhllgbaa

namespace Go.Proofs.Ythalijmfhllgbaa
set_option linter.unusedSimpArgs false
set_option linter.unusedVariables false
open Go.Sx Dt

set_option maxRecDepth 10000

/-- A second's kind; is a time right? -/
def nearB (y : Int) : Bool := decide (1950 ≤ y) && decide (y ≤ 2049)
def kindN (s : Int) : Int := if atB s then (if nearB (ofY (s / 86400)) then 23 else 24) else 0
def knownB (k : Int) : Bool := k == 23 || k == 24
def rightM (k s : Int) : Bool := !(kindN s == 0) && (k == 24 || k == 23 && kindN s == 23)
abbrev timA (k s : Int) : Av := .agg [i64c k, i64c s]
theorem kind_cases (s : Int) : kindN s = 0 ∨ kindN s = 23 ∨ kindN s = 24 := by unfold kindN; (repeat' split) <;> simp
theorem kind_at {s : Int} : kindN s = 0 ↔ atB s = false := by
  unfold kindN
  cases h : atB s
  · simp
  · simp; split <;> omega
theorem known10_ok (k : Int) : Ct Try.prog 73 [lv (.int .i64 k)] [] (lv (.bool (knownB k))) [] [] := by
  refine Ct_intro Try.func73 rfl rfl rfl rfl rfl (fun E hn hb => ?_)
  repeat (first | refine stp ?_ | refine N_block_pass rfl ?_ | refine sp1 ?_ | refine sg1 ?_ | refine WL_nil ?_)
  refine rt2 [] ?_ ?_
  · refine congrArg (fun x => lv (.bool x)) ?_
    unfold knownB
    cases k == 23 <;> rfl
  · trivial
theorem near_ok (y : Int) : Ct Try.prog 87 [lv (.int .i64 y)] [] (lv (.bool (nearB y))) [] [] := by
  refine Ct_intro Try.func87 rfl rfl rfl rfl rfl (fun E hn hb => ?_)
  repeat (first | refine stp ?_ | refine N_block_pass rfl ?_ | refine sp1 ?_ | refine sg1 ?_ | refine WL_nil ?_)
  refine rt2 [] ?_ ?_
  · refine congrArg (fun x => lv (.bool x)) ?_
    unfold nearB
    cases decide (1950 ≤ y) <;> rfl
  · trivial
theorem kind_ok (s : Int) : Ct Try.prog 34 [lv (.int .i64 s)] [] (lv (.int .i64 (kindN s))) [] [] := by
  unfold kindN
  by_cases h : atB s = true
  · have ha := pat_ok s h
    rw [if_pos h]
    have hn2 := near_ok (ofY (s / 86400))
    unfold atC at ha
    generalize ofY (s / 86400) = y at *
    generalize ofM (s / 86400) = m at *
    generalize ofD (s / 86400) = d at *
    generalize s % 86400 / 3600 = q1 at *
    generalize s % 86400 / 60 % 60 = q2 at *
    generalize s % 86400 % 60 = q3 at *
    generalize nearB y = B at *
    refine Ct_intro Try.func34 rfl rfl rfl rfl rfl (fun E hn hb => ?_)
    repeat (first | refine stp ?_ | refine N_block_pass rfl ?_ | refine sp1 ?_ | refine sg1 ?_ | refine WL_nil ?_)
    refine s_call0 ha rfl rfl rfl (by rw [hn]; rfl) rfl rfl (by first | trivial | (simp; done) | (simp; omega) | (simp at *; done) | (simp at *; omega)) rfl rfl rfl ?_
    repeat (first | refine stp ?_ | refine N_block_pass rfl ?_ | refine sp1 ?_ | refine sg1 ?_ | refine WL_nil ?_)
    refine s_allocN rfl rfl rfl (by rw [hn]; rfl) rfl zok122 ?_
    refine s_storeN rfl rfl rfl rfl rfl (by first | trivial | (simp; done) | (simp; omega) | (simp at *; done) | (simp at *; omega)) rfl rfl rfl (by rw [cellsOf122]; rfl) (by rw [info122]; rfl) rfl rfl ?_
    repeat (first | refine stp ?_ | refine N_block_pass rfl ?_ | refine sp1 ?_ | refine sg1 ?_ | refine WL_nil ?_)
    refine W_cond rfl (by simp) (fun hc => ?_) (fun hc => ?_)
    · simp at hc
    repeat (first | refine stp ?_ | refine N_block_pass rfl ?_ | refine sp1 ?_ | refine sg1 ?_ | refine WL_nil ?_)
    refine s_call0 hn2 rfl rfl rfl (by rw [hn]; rfl) rfl rfl (by first | trivial | (simp; done) | (simp; omega) | (simp at *; done) | (simp at *; omega)) rfl rfl rfl ?_
    repeat (first | refine stp ?_ | refine N_block_pass rfl ?_ | refine sp1 ?_ | refine sg1 ?_ | refine WL_nil ?_)
    refine W_cond rfl (by simp) (fun hc => ?_) (fun hc => ?_)
    · subst hc
      repeat (first | refine stp ?_ | refine N_block_pass rfl ?_ | refine sp1 ?_ | refine sg1 ?_ | refine WL_nil ?_)
      exact rt1 []
    · subst hc
      repeat (first | refine stp ?_ | refine N_block_pass rfl ?_ | refine sp1 ?_ | refine sg1 ?_ | refine WL_nil ?_)
      exact rt1 []
  · rw [if_neg h]
    have ha := pat_err s (by simpa using h)
    refine Ct_intro Try.func34 rfl rfl rfl rfl rfl (fun E hn hb => ?_)
    repeat (first | refine stp ?_ | refine N_block_pass rfl ?_ | refine sp1 ?_ | refine sg1 ?_ | refine WL_nil ?_)
    refine s_call0 ha rfl rfl rfl (by rw [hn]; rfl) rfl rfl (by first | trivial | (simp; done) | (simp; omega) | (simp at *; done) | (simp at *; omega)) rfl rfl rfl ?_
    repeat (first | refine stp ?_ | refine N_block_pass rfl ?_ | refine sp1 ?_ | refine sg1 ?_ | refine WL_nil ?_)
    refine s_allocN rfl rfl rfl (by rw [hn]; rfl) rfl zok122 ?_
    refine s_storeN rfl rfl rfl rfl rfl (by first | trivial | (simp; done) | (simp; omega) | (simp at *; done) | (simp at *; omega)) rfl rfl rfl (by rw [cellsOf122]; rfl) (by rw [info122]; rfl) rfl rfl ?_
    repeat (first | refine stp ?_ | refine N_block_pass rfl ?_ | refine sp1 ?_ | refine sg1 ?_ | refine WL_nil ?_)
    refine W_cond rfl (by simp) (fun hc => ?_) (fun hc => ?_)
    · repeat (first | refine stp ?_ | refine N_block_pass rfl ?_ | refine sp1 ?_ | refine sg1 ?_ | refine WL_nil ?_)
      exact rt1 []
    · simp at hc
theorem rkind_ok (s : Int) : Ct Try.prog 31 [lv (.int .i64 s)] [] (lv (.int .i64 (kindN s))) [] [] := by
  unfold kindN
  by_cases h : atB s = true
  · have ha := rat_ok s h
    rw [if_pos h]
    unfold atC at ha
    generalize ofY (s / 86400) = y at *
    generalize ofM (s / 86400) = m at *
    generalize ofD (s / 86400) = d at *
    generalize s % 86400 / 3600 = q1 at *
    generalize s % 86400 / 60 % 60 = q2 at *
    generalize s % 86400 % 60 = q3 at *
    have hB : (bif decide (1950 ≤ y) then decide (y < 2050) else false) = nearB y := by
      rw [nearB, Bool.eq_iff_iff]
      simp [Bool.cond_eq_ite]
      omega
    refine Ct_intro Try.func31 rfl rfl rfl rfl rfl (fun E hn hb => ?_)
    repeat (first | refine stp ?_ | refine N_block_pass rfl ?_ | refine sp1 ?_ | refine sg1 ?_ | refine WL_nil ?_)
    refine s_call0 ha rfl rfl rfl (by rw [hn]; rfl) rfl rfl (by first | trivial | (simp; done) | (simp; omega) | (simp at *; done) | (simp at *; omega)) rfl rfl rfl ?_
    repeat (first | refine stp ?_ | refine N_block_pass rfl ?_ | refine sp1 ?_ | refine sg1 ?_ | refine WL_nil ?_)
    refine s_allocN rfl rfl rfl (by rw [hn]; rfl) rfl zok126 ?_
    refine s_storeN rfl rfl rfl rfl rfl (by first | trivial | (simp; done) | (simp; omega) | (simp at *; done) | (simp at *; omega)) rfl rfl rfl (by rw [cellsOf126]; rfl) (by rw [info126]; rfl) rfl rfl ?_
    repeat (first | refine stp ?_ | refine N_block_pass rfl ?_ | refine sp1 ?_ | refine sg1 ?_ | refine WL_nil ?_)
    refine W_cond rfl (by simp) (fun hc => ?_) (fun hc => ?_)
    · simp at hc
    repeat (first | refine stp ?_ | refine N_block_pass rfl ?_ | refine sp1 ?_ | refine sg1 ?_ | refine WL_nil ?_)
    refine W_cond rfl (by simp) (fun hc => ?_) (fun hc => ?_)
    · have hc : nearB y = true := hB.symm.trans hc
      rw [hc]
      repeat (first | refine stp ?_ | refine N_block_pass rfl ?_ | refine sp1 ?_ | refine sg1 ?_ | refine WL_nil ?_)
      exact rt1 []
    · have hc : nearB y = false := hB.symm.trans hc
      rw [hc]
      repeat (first | refine stp ?_ | refine N_block_pass rfl ?_ | refine sp1 ?_ | refine sg1 ?_ | refine WL_nil ?_)
      exact rt1 []
  · rw [if_neg h]
    have ha := rat_err s (by simpa using h)
    refine Ct_intro Try.func31 rfl rfl rfl rfl rfl (fun E hn hb => ?_)
    repeat (first | refine stp ?_ | refine N_block_pass rfl ?_ | refine sp1 ?_ | refine sg1 ?_ | refine WL_nil ?_)
    refine s_call0 ha rfl rfl rfl (by rw [hn]; rfl) rfl rfl (by first | trivial | (simp; done) | (simp; omega) | (simp at *; done) | (simp at *; omega)) rfl rfl rfl ?_
    repeat (first | refine stp ?_ | refine N_block_pass rfl ?_ | refine sp1 ?_ | refine sg1 ?_ | refine WL_nil ?_)
    refine s_allocN rfl rfl rfl (by rw [hn]; rfl) rfl zok126 ?_
    refine s_storeN rfl rfl rfl rfl rfl (by first | trivial | (simp; done) | (simp; omega) | (simp at *; done) | (simp at *; omega)) rfl rfl rfl (by rw [cellsOf126]; rfl) (by rw [info126]; rfl) rfl rfl ?_
    repeat (first | refine stp ?_ | refine N_block_pass rfl ?_ | refine sp1 ?_ | refine sg1 ?_ | refine WL_nil ?_)
    refine W_cond rfl (by simp) (fun hc => ?_) (fun hc => ?_)
    · repeat (first | refine stp ?_ | refine N_block_pass rfl ?_ | refine sp1 ?_ | refine sg1 ?_ | refine WL_nil ?_)
      exact rt1 []
    · simp at hc
theorem rightM_ok (k s : Int) : Ct Try.prog 32 [timA k s] [] (lv (.bool (rightM k s))) [] [] := by
  have hk := kind_ok s
  have h3 := kind_cases s
  unfold rightM
  generalize kindN s = K at *
  refine Ct_intro Try.func32 rfl rfl rfl rfl rfl (fun E hn hb => ?_)
  repeat (first | refine stp ?_ | refine N_block_pass rfl ?_ | refine sp1 ?_ | refine sg1 ?_ | refine WL_nil ?_)
  refine s_boxN rfl rfl rfl (by rw [hn]; rfl) rfl (by first | trivial | (simp; done) | (simp; omega) | (simp at *; done) | (simp at *; omega)) rfl rfl ?_
  repeat (first | refine stp ?_ | refine N_block_pass rfl ?_ | refine sp1 ?_ | refine sg1 ?_ | refine WL_nil ?_)
  refine s_call0 hk rfl rfl rfl (by rw [hn]; rfl) rfl rfl (by first | trivial | (simp; done) | (simp; omega) | (simp at *; done) | (simp at *; omega)) rfl rfl rfl ?_
  repeat (first | refine stp ?_ | refine N_block_pass rfl ?_ | refine sp1 ?_ | refine sg1 ?_ | refine WL_nil ?_)
  refine rt2 [] ?_ ?_
  · refine congrArg (fun x => lv (.bool x)) ?_
    rw [Bool.eq_iff_iff]
    simp [Bool.cond_eq_ite]
  · trivial
theorem rrightM_ok (k s : Int) : Ct Try.prog 33 [timA k s] [] (lv (.bool (rightM k s))) [] [] := by
  have hk := rkind_ok s
  have h3 := kind_cases s
  unfold rightM
  generalize kindN s = K at *
  refine Ct_intro Try.func33 rfl rfl rfl rfl rfl (fun E hn hb => ?_)
  repeat (first | refine stp ?_ | refine N_block_pass rfl ?_ | refine sp1 ?_ | refine sg1 ?_ | refine WL_nil ?_)
  refine s_boxN rfl rfl rfl (by rw [hn]; rfl) rfl (by first | trivial | (simp; done) | (simp; omega) | (simp at *; done) | (simp at *; omega)) rfl rfl ?_
  repeat (first | refine stp ?_ | refine N_block_pass rfl ?_ | refine sp1 ?_ | refine sg1 ?_ | refine WL_nil ?_)
  refine s_call0 hk rfl rfl rfl (by rw [hn]; rfl) rfl rfl (by first | trivial | (simp; done) | (simp; omega) | (simp at *; done) | (simp at *; omega)) rfl rfl rfl ?_
  repeat (first | refine stp ?_ | refine N_block_pass rfl ?_ | refine sp1 ?_ | refine sg1 ?_ | refine WL_nil ?_)
  refine rt2 [] ?_ ?_
  · refine congrArg (fun x => lv (.bool x)) ?_
    rw [Bool.eq_iff_iff]
    simp [Bool.cond_eq_ite]
    omega
  · trivial
theorem of10_ok (s : Int) : Ct Try.prog 29 [lv (.int .i64 s)] [] (.tup [timA (kindN s) (if kindN s = 0 then 0 else s), lv (.int .i64 (if kindN s = 0 then 1 else 0))]) [] [] := by
  have hk := kind_ok s
  generalize kindN s = K at *
  by_cases h : K = 0
  · subst h
    simp only [if_true]
    refine Ct_intro Try.func29 rfl rfl rfl rfl rfl (fun E hn hb => ?_)
    repeat (first | refine stp ?_ | refine N_block_pass rfl ?_ | refine sp1 ?_ | refine sg1 ?_ | refine WL_nil ?_)
    refine s_allocN rfl rfl rfl (by rw [hn]; rfl) rfl zok44 ?_
    repeat (first | refine stp ?_ | refine N_block_pass rfl ?_ | refine sp1 ?_ | refine sg1 ?_ | refine WL_nil ?_)
    refine s_call0 hk rfl rfl rfl (by rw [hn]; rfl) rfl rfl (by first | trivial | (simp; done) | (simp; omega) | (simp at *; done) | (simp at *; omega)) rfl rfl rfl ?_
    repeat (first | refine stp ?_ | refine N_block_pass rfl ?_ | refine sp1 ?_ | refine sg1 ?_ | refine WL_nil ?_)
    refine W_cond rfl (by simp) (fun hc => ?_) (fun hc => ?_)
    · repeat (first | refine stp ?_ | refine N_block_pass rfl ?_ | refine sp1 ?_ | refine sg1 ?_ | refine WL_nil ?_)
      refine s_storeN rfl rfl rfl rfl rfl (by first | trivial | (simp; done) | (simp; omega) | (simp at *; done) | (simp at *; omega)) rfl rfl rfl (by rw [cellsOf44]; rfl) (by rw [info44]; rfl) rfl rfl ?_
      repeat (first | refine stp ?_ | refine N_block_pass rfl ?_ | refine sp1 ?_ | refine sg1 ?_ | refine WL_nil ?_)
      exact rt1 []
    · simp at hc
  · rw [if_neg h, if_neg h]
    refine Ct_intro Try.func29 rfl rfl rfl rfl rfl (fun E hn hb => ?_)
    repeat (first | refine stp ?_ | refine N_block_pass rfl ?_ | refine sp1 ?_ | refine sg1 ?_ | refine WL_nil ?_)
    refine s_allocN rfl rfl rfl (by rw [hn]; rfl) rfl zok44 ?_
    repeat (first | refine stp ?_ | refine N_block_pass rfl ?_ | refine sp1 ?_ | refine sg1 ?_ | refine WL_nil ?_)
    refine s_call0 hk rfl rfl rfl (by rw [hn]; rfl) rfl rfl (by first | trivial | (simp; done) | (simp; omega) | (simp at *; done) | (simp at *; omega)) rfl rfl rfl ?_
    repeat (first | refine stp ?_ | refine N_block_pass rfl ?_ | refine sp1 ?_ | refine sg1 ?_ | refine WL_nil ?_)
    refine W_cond rfl (by simp) (fun hc => ?_) (fun hc => ?_)
    · simp at hc; omega
    · repeat (first | refine stp ?_ | refine N_block_pass rfl ?_ | refine sp1 ?_ | refine sg1 ?_ | refine WL_nil ?_)
      refine s_storeN rfl rfl rfl rfl rfl (by first | trivial | (simp; done) | (simp; omega) | (simp at *; done) | (simp at *; omega)) rfl rfl rfl (by rw [cellsOf44]; rfl) (by rw [info44]; rfl) rfl rfl ?_
      repeat (first | refine stp ?_ | refine N_block_pass rfl ?_ | refine sp1 ?_ | refine sg1 ?_ | refine WL_nil ?_)
      exact rt1 []
theorem general_ok (s : Int) : Ct Try.prog 30 [lv (.int .i64 s)] [] (.tup [timA (if kindN s = 0 then 0 else 24) (if kindN s = 0 then 0 else s), lv (.int .i64 (if kindN s = 0 then 1 else 0))]) [] [] := by
  have hr := rightM_ok 24 s
  have e : rightM 24 s = !(kindN s == 0) := by simp [rightM]
  rw [e] at hr
  generalize kindN s = K at *
  by_cases h : K = 0
  · subst h
    simp only [if_true]
    refine Ct_intro Try.func30 rfl rfl rfl rfl rfl (fun E hn hb => ?_)
    repeat (first | refine stp ?_ | refine N_block_pass rfl ?_ | refine sp1 ?_ | refine sg1 ?_ | refine WL_nil ?_)
    refine s_allocN rfl rfl rfl (by rw [hn]; rfl) rfl zok44 ?_
    repeat (first | refine stp ?_ | refine N_block_pass rfl ?_ | refine sp1 ?_ | refine sg1 ?_ | refine WL_nil ?_)
    refine s_allocN rfl rfl rfl (by rw [hn]; rfl) rfl zok44 ?_
    refine s_storeN rfl rfl rfl rfl rfl (by first | trivial | (simp; done) | (simp; omega) | (simp at *; done) | (simp at *; omega)) rfl rfl rfl (by rw [cellsOf44]; rfl) (by rw [info44]; rfl) rfl rfl ?_
    repeat (first | refine stp ?_ | refine N_block_pass rfl ?_ | refine sp1 ?_ | refine sg1 ?_ | refine WL_nil ?_)
    refine s_call0 hr rfl rfl rfl (by rw [hn]; rfl) rfl rfl (by first | trivial | (simp; done) | (simp; omega) | (simp at *; done) | (simp at *; omega)) rfl rfl rfl ?_
    repeat (first | refine stp ?_ | refine N_block_pass rfl ?_ | refine sp1 ?_ | refine sg1 ?_ | refine WL_nil ?_)
    refine W_cond rfl (by simp) (fun hc => ?_) (fun hc => ?_)
    · repeat (first | refine stp ?_ | refine N_block_pass rfl ?_ | refine sp1 ?_ | refine sg1 ?_ | refine WL_nil ?_)
      refine s_storeN rfl rfl rfl rfl rfl (by first | trivial | (simp; done) | (simp; omega) | (simp at *; done) | (simp at *; omega)) rfl rfl rfl (by rw [cellsOf44]; rfl) (by rw [info44]; rfl) rfl rfl ?_
      repeat (first | refine stp ?_ | refine N_block_pass rfl ?_ | refine sp1 ?_ | refine sg1 ?_ | refine WL_nil ?_)
      exact rt1 []
    · simp at hc
  · rw [if_neg h, if_neg h, if_neg h]
    have e2 : (!(K == 0)) = true := by simpa using h
    rw [e2] at hr
    refine Ct_intro Try.func30 rfl rfl rfl rfl rfl (fun E hn hb => ?_)
    repeat (first | refine stp ?_ | refine N_block_pass rfl ?_ | refine sp1 ?_ | refine sg1 ?_ | refine WL_nil ?_)
    refine s_allocN rfl rfl rfl (by rw [hn]; rfl) rfl zok44 ?_
    repeat (first | refine stp ?_ | refine N_block_pass rfl ?_ | refine sp1 ?_ | refine sg1 ?_ | refine WL_nil ?_)
    refine s_allocN rfl rfl rfl (by rw [hn]; rfl) rfl zok44 ?_
    refine s_storeN rfl rfl rfl rfl rfl (by first | trivial | (simp; done) | (simp; omega) | (simp at *; done) | (simp at *; omega)) rfl rfl rfl (by rw [cellsOf44]; rfl) (by rw [info44]; rfl) rfl rfl ?_
    repeat (first | refine stp ?_ | refine N_block_pass rfl ?_ | refine sp1 ?_ | refine sg1 ?_ | refine WL_nil ?_)
    refine s_call0 hr rfl rfl rfl (by rw [hn]; rfl) rfl rfl (by first | trivial | (simp; done) | (simp; omega) | (simp at *; done) | (simp at *; omega)) rfl rfl rfl ?_
    repeat (first | refine stp ?_ | refine N_block_pass rfl ?_ | refine sp1 ?_ | refine sg1 ?_ | refine WL_nil ?_)
    refine W_cond rfl (by simp) (fun hc => ?_) (fun hc => ?_)
    · simp at hc
    · repeat (first | refine stp ?_ | refine N_block_pass rfl ?_ | refine sp1 ?_ | refine sg1 ?_ | refine WL_nil ?_)
      refine s_storeN rfl rfl rfl rfl rfl (by first | trivial | (simp; done) | (simp; omega) | (simp at *; done) | (simp at *; omega)) rfl rfl rfl (by rw [cellsOf44]; rfl) (by rw [info44]; rfl) rfl rfl ?_
      repeat (first | refine stp ?_ | refine N_block_pass rfl ?_ | refine sp1 ?_ | refine sg1 ?_ | refine WL_nil ?_)
      exact rt1 []
end Go.Proofs.Ythalijmfhllgbaa

namespace Go.Proofs.Ythalijmfhllgbaa
set_option linter.unusedSimpArgs false
set_option linter.unusedVariables false
open Go.Sx

set_option maxRecDepth 10000

/-! Values, digits. -/
def isDig (x : Int) : Bool := decide (48 ≤ x) && decide (x ≤ 57)
/-! Strings as rows of bytes. -/
theorem ext_str (l : List Int) (a b : Nat) : (strOfNums l).extract a b = strOfNums ((l.take b).drop a) := by
  apply ByteArray.ext
  apply Array.ext'
  rw [strOfNums_data]
  simp only [ByteArray.data_extract, Array.toList_extract, strOfNums_data]
  simp [List.extract_eq_take_drop, List.map_take, List.map_drop, List.drop_take]
theorem app_str (a b : List Int) : strOfNums a ++ strOfNums b = strOfNums (a ++ b) := by
  apply ByteArray.ext
  apply Array.ext'
  rw [strOfNums_data, ByteArray.data_append]
  simp [strOfNums_data]

end Go.Proofs.Ythalijmfhllgbaa

namespace Go.Proofs.Ythalijmfhllgbaa
set_option linter.unusedSimpArgs false
set_option linter.unusedVariables false
open Go.Sx

set_option maxRecDepth 10000

@[simp] theorem size_str (l : List Int) : (strOfNums l).size = l.length := strOfNums_size l
end Go.Proofs.Ythalijmfhllgbaa

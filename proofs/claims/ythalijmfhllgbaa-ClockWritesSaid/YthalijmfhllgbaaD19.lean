/-
  Clock: the document's contents of times. The conditions: the time is right.
-/
import Derived.Test.YthalijmfhllgbaaD14
import Derived.Test.YthalijmfhllgbaaD16
import Derived.Test.YthalijmfhllgbaaD1
namespace Go.Proofs.Ythalijmfhllgbaa
set_option linter.unusedSimpArgs false
set_option linter.unusedVariables false
open Go.Sx Dt

set_option maxRecDepth 10000

def exPs : List Pc := [(2049, 4, ByteArray.mk #[45]), (12, 2, ByteArray.mk #[45]), (31, 2, ByteArray.mk #[84]), (23, 2, ByteArray.mk #[58]), (59, 2, ByteArray.mk #[58]), (59, 2, ByteArray.mk #[90])]
theorem exPs_ok : ∀ p ∈ exPs, pcOk p := by
  intro p hp
  simp only [exPs, List.mem_cons, List.not_mem_nil, or_false] at hp
  rcases hp with rfl | rfl | rfl | rfl | rfl | rfl <;> (unfold pcOk; decide)
theorem text10_ex : Ct Try.prog 81 [lv (.int .i64 2524607999)] [] (.tup [lv (.string (ByteArray.mk #[50, 48, 52, 57, 45, 49, 50, 45, 51, 49, 84, 50, 51, 58, 53, 57, 58, 53, 57, 90])), lv (.int .i64 0)]) [] [] := by
  have hat := pat_ok 2524607999 (by decide +kernel)
  unfold atC at hat
  rw [show ofY (2524607999 / 86400) = 2049 by decide +kernel, show ofM (2524607999 / 86400) = 12 by decide +kernel, show ofD (2524607999 / 86400) = 31 by decide +kernel, show (2524607999 : Int) % 86400 / 3600 = 23 by decide +kernel, show (2524607999 : Int) % 86400 / 60 % 60 = 59 by decide +kernel, show (2524607999 : Int) % 86400 % 60 = 59 by decide +kernel] at hat
  have hpl : pcsL exPs = [50, 48, 52, 57, 45, 49, 50, 45, 51, 49, 84, 50, 51, 58, 53, 57, 58, 53, 57, 90] := by decide +kernel
  have hwr := written_ok exPs (by decide) exPs_ok (by rw [hpl]; decide) (by rw [hpl]; decide) (by decide)
  rw [hpl] at hwr
  refine Ct_intro Try.func81 rfl rfl rfl rfl rfl (fun E hn hb => ?_)
  repeat (first | refine stp ?_ | refine N_block_pass rfl ?_ | refine sp1 ?_ | refine sg1 ?_ | refine WL_nil ?_)
  refine s_call0 hat rfl rfl rfl (by rw [hn]; rfl) rfl rfl (by first | trivial | (simp; done) | (simp; omega) | (simp at *; done) | (simp at *; omega)) rfl rfl rfl ?_
  repeat (first | refine stp ?_ | refine N_block_pass rfl ?_ | refine sp1 ?_ | refine sg1 ?_ | refine WL_nil ?_)
  refine s_allocN rfl rfl rfl (by rw [hn]; rfl) rfl zok122 ?_
  refine s_storeN rfl rfl rfl rfl rfl (by first | trivial | (simp; done) | (simp; omega) | (simp at *; done) | (simp at *; omega)) rfl rfl rfl (by rw [cellsOf122]; rfl) (by rw [info122]; rfl) rfl rfl ?_
  repeat (first | refine stp ?_ | refine N_block_pass rfl ?_ | refine sp1 ?_ | refine sg1 ?_ | refine WL_nil ?_)
  refine W_cond rfl (by simp) (fun hc => ?_) (fun hc => ?_)
  · simp at hc
  repeat (first | refine stp ?_ | refine N_block_pass rfl ?_ | refine sp1 ?_ | refine sg1 ?_ | refine WL_nil ?_)
  refine WL_q (opq_of (opy_lit (d := (.recs 3 (exPs.map pcR))) rfl (elt_mk Try.underlying229 rfl rfl) zok191 rfl (by first | trivial | (simp; done) | (simp; omega) | (simp at *; done) | (simp at *; omega)) rfl ⟨by decide, by decide, rfl, rfl⟩) rfl) (by rw [hn]; rfl) ?_
  refine s_call0 hwr rfl rfl rfl (by rw [hn]; rfl) rfl rfl (by first | trivial | (simp; done) | (simp; omega) | (simp at *; done) | (simp at *; omega)) rfl rfl rfl ?_
  repeat (first | refine stp ?_ | refine N_block_pass rfl ?_ | refine sp1 ?_ | refine sg1 ?_ | refine WL_nil ?_)
  exact rt1 []
set_option maxHeartbeats 4000000 in
theorem known10ex_ok : Ct Try.prog 24 [] [] (lv (.bool true)) [] [] := by
  have e1 : parse10 23 [52, 57, 49, 50, 51, 49, 50, 51, 53, 57, 53, 57, 90] = (23, 2524607999, 0) := by decide +kernel
  have e2 : parse10 23 [53, 48, 48, 49, 48, 49, 48, 48, 48, 48, 48, 48, 90] = (23, -631152000, 0) := by decide +kernel
  have e3 : parse10 23 [52, 57, 49, 50, 51, 49, 50, 51, 53, 57, 90] = (0, 0, 6) := by decide +kernel
  have p1 := parse10_ok 23 [52, 57, 49, 50, 51, 49, 50, 51, 53, 57, 53, 57, 90] (by decide)
  have p2 := parse10_ok 23 [53, 48, 48, 49, 48, 49, 48, 48, 48, 48, 48, 48, 90] (by decide)
  have p3 := parse10_ok 23 [52, 57, 49, 50, 51, 49, 50, 51, 53, 57, 90] (by decide)
  rw [e1] at p1
  rw [e2] at p2
  rw [e3] at p3
  have e4 : whole10 24 2524607999 = [24, 15, 50, 48, 52, 57, 49, 50, 51, 49, 50, 51, 53, 57, 53, 57, 90] := by decide +kernel
  have hwr := write10_ok 24 2524607999 (by decide +kernel)
  rw [e4] at hwr
  have hnew := curnew_ok [24, 15, 50, 48, 52, 57, 49, 50, 51, 49, 50, 51, 53, 57, 53, 57, 90] (by decide)
  have e5 : readTm (lkS true) [24, 15, 50, 48, 52, 57, 49, 50, 51, 49, 50, 51, 53, 57, 53, 57, 90] 0 = ((0, 0), 0, 6) := by decide +kernel
  have hrd := creadS_ok [24, 15, 50, 48, 52, 57, 49, 50, 51, 49, 50, 51, 53, 57, 53, 57, 90] 0 (by decide) (by decide) (by unfold WfB; decide)
  rw [e5] at hrd
  have htx := text10_ex
  refine Ct_intro Try.func24 rfl rfl rfl rfl rfl (fun E hn hb => ?_)
  repeat (first | refine stp ?_ | refine N_block_pass rfl ?_ | refine sp1 ?_ | refine sg1 ?_ | refine WL_nil ?_)
  refine s_litC rfl rfl rfl (by rw [hn]; rfl) rfl rfl (by rw [hn]; rfl) (elt_mk Try.underlying24 rfl rfl) Try.underlying5 zok5 rfl (by first | trivial | (simp; done) | (simp; omega) | (simp at *; done) | (simp at *; omega)) rfl ⟨by decide, by decide, rfl⟩ ?_
  repeat (first | refine stp ?_ | refine N_block_pass rfl ?_ | refine sp1 ?_ | refine sg1 ?_ | refine WL_nil ?_)
  refine s_call0 p1 rfl rfl rfl (by rw [hn]; rfl) rfl rfl (by first | trivial | (simp; done) | (simp; omega) | (simp at *; done) | (simp at *; omega)) rfl rfl rfl ?_
  repeat (first | refine stp ?_ | refine N_block_pass rfl ?_ | refine sp1 ?_ | refine sg1 ?_ | refine WL_nil ?_)
  refine s_allocN rfl rfl rfl (by rw [hn]; rfl) rfl zok44 ?_
  refine s_storeN rfl rfl rfl rfl rfl (by first | trivial | (simp; done) | (simp; omega) | (simp at *; done) | (simp at *; omega)) rfl rfl rfl (by rw [cellsOf44]; rfl) (by rw [info44]; rfl) rfl rfl ?_
  repeat (first | refine stp ?_ | refine N_block_pass rfl ?_ | refine sp1 ?_ | refine sg1 ?_ | refine WL_nil ?_)
  refine s_call0 htx rfl rfl rfl (by rw [hn]; rfl) rfl rfl (by first | trivial | (simp; done) | (simp; omega) | (simp at *; done) | (simp at *; omega)) rfl rfl rfl ?_
  repeat (first | refine stp ?_ | refine N_block_pass rfl ?_ | refine sp1 ?_ | refine sg1 ?_ | refine WL_nil ?_)
  refine s_litC rfl rfl rfl (by rw [hn]; rfl) rfl rfl (by rw [hn]; rfl) (elt_mk Try.underlying24 rfl rfl) Try.underlying5 zok5 rfl (by first | trivial | (simp; done) | (simp; omega) | (simp at *; done) | (simp at *; omega)) rfl ⟨by decide, by decide, rfl⟩ ?_
  repeat (first | refine stp ?_ | refine N_block_pass rfl ?_ | refine sp1 ?_ | refine sg1 ?_ | refine WL_nil ?_)
  refine s_call0 p2 rfl rfl rfl (by rw [hn]; rfl) rfl rfl (by first | trivial | (simp; done) | (simp; omega) | (simp at *; done) | (simp at *; omega)) rfl rfl rfl ?_
  repeat (first | refine stp ?_ | refine N_block_pass rfl ?_ | refine sp1 ?_ | refine sg1 ?_ | refine WL_nil ?_)
  refine s_allocN rfl rfl rfl (by rw [hn]; rfl) rfl zok44 ?_
  refine s_storeN rfl rfl rfl rfl rfl (by first | trivial | (simp; done) | (simp; omega) | (simp at *; done) | (simp at *; omega)) rfl rfl rfl (by rw [cellsOf44]; rfl) (by rw [info44]; rfl) rfl rfl ?_
  repeat (first | refine stp ?_ | refine N_block_pass rfl ?_ | refine sp1 ?_ | refine sg1 ?_ | refine WL_nil ?_)
  refine s_litC rfl rfl rfl (by rw [hn]; rfl) rfl rfl (by rw [hn]; rfl) (elt_mk Try.underlying24 rfl rfl) Try.underlying5 zok5 rfl (by first | trivial | (simp; done) | (simp; omega) | (simp at *; done) | (simp at *; omega)) rfl ⟨by decide, by decide, rfl⟩ ?_
  repeat (first | refine stp ?_ | refine N_block_pass rfl ?_ | refine sp1 ?_ | refine sg1 ?_ | refine WL_nil ?_)
  refine s_call0 p3 rfl rfl rfl (by rw [hn]; rfl) rfl rfl (by first | trivial | (simp; done) | (simp; omega) | (simp at *; done) | (simp at *; omega)) rfl rfl rfl ?_
  repeat (first | refine stp ?_ | refine N_block_pass rfl ?_ | refine sp1 ?_ | refine sg1 ?_ | refine WL_nil ?_)
  refine s_allocN rfl rfl rfl (by rw [hn]; rfl) rfl zok44 ?_
  refine s_storeN rfl rfl rfl rfl rfl (by first | trivial | (simp; done) | (simp; omega) | (simp at *; done) | (simp at *; omega)) rfl rfl rfl (by rw [cellsOf44]; rfl) (by rw [info44]; rfl) rfl rfl ?_
  repeat (first | refine stp ?_ | refine N_block_pass rfl ?_ | refine sp1 ?_ | refine sg1 ?_ | refine WL_nil ?_)
  refine s_call0 hwr rfl rfl rfl (by rw [hn]; rfl) rfl rfl (by first | trivial | (simp; done) | (simp; omega) | (simp at *; done) | (simp at *; omega)) rfl rfl rfl ?_
  repeat (first | refine stp ?_ | refine N_block_pass rfl ?_ | refine sp1 ?_ | refine sg1 ?_ | refine WL_nil ?_)
  refine s_call [] hnew rfl rfl (by rw [hn]; rfl) rfl rfl (by trivial) ⟨rfl, trivial, trivial, rfl⟩ ?_
  repeat (first | refine stp ?_ | refine N_block_pass rfl ?_ | refine sp1 ?_ | refine sg1 ?_ | refine WL_nil ?_)
  refine s_call [110] hrd rfl rfl (by rw [hn]; rfl) rfl rfl (by trivial) ⟨rfl, rfl, (by simp [ordL]), rfl⟩ ?_
  repeat (first | refine stp ?_ | refine N_block_pass rfl ?_ | refine sp1 ?_ | refine sg1 ?_ | refine WL_nil ?_)
  refine s_allocN rfl rfl rfl (by rw [hn]; rfl) rfl zok44 ?_
  refine s_storeN rfl rfl rfl rfl rfl (by first | trivial | (simp; done) | (simp; omega) | (simp at *; done) | (simp at *; omega)) rfl rfl rfl (by rw [cellsOf44]; rfl) (by rw [info44]; rfl) rfl rfl ?_
  iterate 3 (first | refine stp ?_ | refine N_block_pass rfl ?_ | refine sp1 ?_ | refine sg1 ?_ | refine WL_nil ?_)
  refine W_weaken (St.le_of (l := [(2, lv (.int .i64 0)), (3, lv (.string (ByteArray.mk #[50, 48, 52, 57, 45, 49, 50, 45, 51, 49, 84, 50, 51, 58, 53, 57, 58, 53, 57, 90]))), (4, lv (.int .i64 0)), (5, .c (.ptr 69 0)), (6, lv (.int .i64 0)), (8, lv (.int .i64 6)), (10, lv (.int .i64 0)), (12, lv (.int .i64 6))]) (h := [(69, .cells [i64c 23, i64c (-631152000)])]) (by refine ⟨?_, ?_⟩ <;> (repeat' (first | exact trivial | exact rfl | refine ⟨?_, ?_⟩)) <;> first | exact rfl | (simp; done) | skip)) ?_
  repeat (first | refine stp ?_ | refine N_block_pass rfl ?_ | refine WL_gT rfl rfl ?_ | refine sp1 ?_ | refine WL_nil ?_)
  simp only [beq_self_eq_true, cond_true]
  repeat (first | refine stp ?_ | refine N_block_pass rfl ?_ | refine WL_gT rfl rfl ?_ | refine sp1 ?_ | refine WL_nil ?_)
  exact rt1 []
end Go.Proofs.Ythalijmfhllgbaa

namespace Go.Sx
set_option linter.unusedSimpArgs false
set_option linter.unusedVariables false
open Go
end Go.Sx
namespace Go.Proofs.Ythalijmfhllgbaa
open Go.Sx Dt

set_option maxRecDepth 10000

theorem lawto_ok (k s : Int) : Ct Try.prog 27 [timA k s] [] (timA k s) [] [] := by
  refine Ct_intro Try.func27 rfl rfl rfl rfl rfl (fun E hn hb => ?_)
  repeat (first | refine stp ?_ | refine N_block_pass rfl ?_ | refine sp1 ?_ | refine sg1 ?_ | refine WL_nil ?_)
  refine s_boxN rfl rfl rfl (by rw [hn]; rfl) rfl (by first | trivial | (simp; done) | (simp; omega) | (simp at *; done) | (simp at *; omega)) rfl rfl ?_
  repeat (first | refine stp ?_ | refine N_block_pass rfl ?_ | refine sp1 ?_ | refine sg1 ?_ | refine WL_nil ?_)
  refine s_allocN rfl rfl rfl (by rw [hn]; rfl) rfl zok44 ?_
  repeat (first | refine stp ?_ | refine N_block_pass rfl ?_ | refine sp1 ?_ | refine sg1 ?_ | refine WL_nil ?_)
  refine s_storeN rfl rfl rfl rfl rfl (by first | trivial | (simp; done) | (simp; omega) | (simp at *; done) | (simp at *; omega)) rfl rfl rfl (by rw [cellsOf44]; rfl) (by rw [info44]; rfl) rfl rfl ?_
  repeat (first | refine stp ?_ | refine N_block_pass rfl ?_ | refine sp1 ?_ | refine sg1 ?_ | refine WL_nil ?_)
  exact rt1 []
end Go.Proofs.Ythalijmfhllgbaa

namespace Go.Proofs.Ythalijmfhllgbaa
set_option linter.unusedSimpArgs false
set_option linter.unusedVariables false
open Go.Sx Dt

set_option maxRecDepth 10000

set_option maxHeartbeats 2000000 in
theorem rcon10_ok (k s : Int) (h : rightM k s = true) : Ct Try.prog 35 [timA k s] [] (lv (.string (strOfNums (con10 k s)))) [] [] := by
  obtain ⟨ha, hk⟩ := right_at h
  have hp := at_parts ha
  have hat := rat_ok s ha
  unfold con10
  unfold atC at hat
  generalize ofY (s / 86400) = y at *
  generalize ofM (s / 86400) = m at *
  generalize ofD (s / 86400) = d at *
  generalize s % 86400 / 3600 = q1 at *
  generalize s % 86400 / 60 % 60 = q2 at *
  generalize s % 86400 % 60 = q3 at *
  have h4 := four_ok y (by omega)
  have t1 := two_ok m (by omega)
  have t2 := two_ok d (by omega)
  have t3 := two_ok q1 (by omega)
  have t4 := two_ok q2 (by omega)
  have t5 := two_ok q3 (by omega)
  have hz : ByteArray.mk #[90] = strOfNums [90] := rfl
  have ex : ∀ A : List Int, A.length = 4 → strOfNums A ++ strOfNums (tw2 m) ++ strOfNums (tw2 d) ++ strOfNums (tw2 q1) ++ strOfNums (tw2 q2) ++ strOfNums (tw2 q3) ++ ByteArray.mk #[90] = strOfNums (A ++ (tw2 m ++ (tw2 d ++ (tw2 q1 ++ (tw2 q2 ++ (tw2 q3 ++ [])))) ++ [90])) := by
    intro A _
    rw [hz]
    simp only [app_str, List.append_assoc, List.append_nil, List.nil_append]
  have ex2 : ∀ A : List Int, True → strOfNums A ++ strOfNums (tw2 m) ++ strOfNums (tw2 d) ++ strOfNums (tw2 q1) ++ strOfNums (tw2 q2) ++ strOfNums (tw2 q3) ++ ByteArray.mk #[90] = strOfNums (A ++ (tw2 m ++ (tw2 d ++ (tw2 q1 ++ (tw2 q2 ++ (tw2 q3 ++ [])))) ++ [90])) := by
    intro A _
    rw [hz]
    simp only [app_str, List.append_assoc, List.append_nil, List.nil_append]
  have hsl : (strOfNums (tw2 (y / 100) ++ tw2 (y % 100))).extract (Int.toNat 2) (strOfNums (tw2 (y / 100) ++ tw2 (y % 100))).size = strOfNums (tw2 (y % 100)) := by
    rw [ext_str, size_str]
    rfl
  rcases hk with rfl | rfl
  · refine Ct_intro Try.func35 rfl rfl rfl rfl rfl (fun E hn hb => ?_)
    repeat (first | refine stp ?_ | refine N_block_pass rfl ?_ | refine sp1 ?_ | refine sg1 ?_ | refine WL_nil ?_)
    refine s_boxN rfl rfl rfl (by rw [hn]; rfl) rfl (by first | trivial | (simp; done) | (simp; omega) | (simp at *; done) | (simp at *; omega)) rfl rfl ?_
    repeat (first | refine stp ?_ | refine N_block_pass rfl ?_ | refine sp1 ?_ | refine sg1 ?_ | refine WL_nil ?_)
    refine s_call0 hat rfl rfl rfl (by rw [hn]; rfl) rfl rfl (by first | trivial | (simp; done) | (simp; omega) | (simp at *; done) | (simp at *; omega)) rfl rfl rfl ?_
    repeat (first | refine stp ?_ | refine N_block_pass rfl ?_ | refine sp1 ?_ | refine sg1 ?_ | refine WL_nil ?_)
    refine s_allocN rfl rfl rfl (by rw [hn]; rfl) rfl zok126 ?_
    refine s_storeN rfl rfl rfl rfl rfl (by first | trivial | (simp; done) | (simp; omega) | (simp at *; done) | (simp at *; omega)) rfl rfl rfl (by rw [cellsOf126]; rfl) (by rw [info126]; rfl) rfl rfl ?_
    repeat (first | refine stp ?_ | refine N_block_pass rfl ?_ | refine sp1 ?_ | refine sg1 ?_ | refine WL_nil ?_)
    refine s_call0 h4 rfl rfl rfl (by rw [hn]; rfl) rfl rfl (by first | trivial | (simp; done) | (simp; omega) | (simp at *; done) | (simp at *; omega)) rfl rfl rfl ?_
    repeat (first | refine stp ?_ | refine N_block_pass rfl ?_ | refine sp1 ?_ | refine sg1 ?_ | refine WL_nil ?_)
    refine W_cond rfl (by simp) (fun hc => ?_) (fun hc => ?_)
    · simp at hc
    · repeat (first | refine stp ?_ | refine N_block_pass rfl ?_ | refine sp1 ?_ | refine sg1 ?_ | refine WL_nil ?_)
      refine W_drawW 24 (by kernel_rfl) (by kernel_rfl) (by kernel_rfl) (by rw [hn]; rfl) rfl rfl ?_
      repeat (first | refine dp1 ?_ | refine dg1 ?_ | refine DrawW_nil ?_)
      refine DrawW_cons rfl (ops_of (opys_call t1 rfl rfl rfl (by first | trivial | (simp; done) | (simp; omega) | (simp at *; done) | (simp at *; omega)) rfl rfl rfl) rfl) ?_
      repeat (first | refine dp1 ?_ | refine dg1 ?_ | refine DrawW_nil ?_)
      refine DrawW_cons rfl (ops_of (opys_call t2 rfl rfl rfl (by first | trivial | (simp; done) | (simp; omega) | (simp at *; done) | (simp at *; omega)) rfl rfl rfl) rfl) ?_
      repeat (first | refine dp1 ?_ | refine dg1 ?_ | refine DrawW_nil ?_)
      refine DrawW_cons rfl (ops_of (opys_call t3 rfl rfl rfl (by first | trivial | (simp; done) | (simp; omega) | (simp at *; done) | (simp at *; omega)) rfl rfl rfl) rfl) ?_
      repeat (first | refine dp1 ?_ | refine dg1 ?_ | refine DrawW_nil ?_)
      refine DrawW_cons rfl (ops_of (opys_call t4 rfl rfl rfl (by first | trivial | (simp; done) | (simp; omega) | (simp at *; done) | (simp at *; omega)) rfl rfl rfl) rfl) ?_
      repeat (first | refine dp1 ?_ | refine dg1 ?_ | refine DrawW_nil ?_)
      refine DrawW_cons rfl (ops_of (opys_call t5 rfl rfl rfl (by first | trivial | (simp; done) | (simp; omega) | (simp at *; done) | (simp at *; omega)) rfl rfl rfl) rfl) ?_
      repeat (first | refine dp1 ?_ | refine dg1 ?_ | refine DrawW_nil ?_)
      refine DrawW_cons rfl (ops_pure true rfl rfl ?_) ?_
      · simp only [ByteArray.size_append, size_str, tw2_len, hz, List.length_append, List.length_cons, List.length_nil]
        simp [AllP]
      repeat (first | refine dp1 ?_ | refine dg1 ?_ | refine DrawW_nil ?_)
      repeat (first | refine stp ?_ | refine N_block_pass rfl ?_ | refine sp1 ?_ | refine sg1 ?_ | refine WL_nil ?_)
      refine rt2 [] ?_ ?_
      · exact congrArg (fun x => lv (.string x)) (ex (tw2 (y / 100) ++ tw2 (y % 100)) rfl)
      · trivial
  · refine Ct_intro Try.func35 rfl rfl rfl rfl rfl (fun E hn hb => ?_)
    repeat (first | refine stp ?_ | refine N_block_pass rfl ?_ | refine sp1 ?_ | refine sg1 ?_ | refine WL_nil ?_)
    refine s_boxN rfl rfl rfl (by rw [hn]; rfl) rfl (by first | trivial | (simp; done) | (simp; omega) | (simp at *; done) | (simp at *; omega)) rfl rfl ?_
    repeat (first | refine stp ?_ | refine N_block_pass rfl ?_ | refine sp1 ?_ | refine sg1 ?_ | refine WL_nil ?_)
    refine s_call0 hat rfl rfl rfl (by rw [hn]; rfl) rfl rfl (by first | trivial | (simp; done) | (simp; omega) | (simp at *; done) | (simp at *; omega)) rfl rfl rfl ?_
    repeat (first | refine stp ?_ | refine N_block_pass rfl ?_ | refine sp1 ?_ | refine sg1 ?_ | refine WL_nil ?_)
    refine s_allocN rfl rfl rfl (by rw [hn]; rfl) rfl zok126 ?_
    refine s_storeN rfl rfl rfl rfl rfl (by first | trivial | (simp; done) | (simp; omega) | (simp at *; done) | (simp at *; omega)) rfl rfl rfl (by rw [cellsOf126]; rfl) (by rw [info126]; rfl) rfl rfl ?_
    repeat (first | refine stp ?_ | refine N_block_pass rfl ?_ | refine sp1 ?_ | refine sg1 ?_ | refine WL_nil ?_)
    refine s_call0 h4 rfl rfl rfl (by rw [hn]; rfl) rfl rfl (by first | trivial | (simp; done) | (simp; omega) | (simp at *; done) | (simp at *; omega)) rfl rfl rfl ?_
    repeat (first | refine stp ?_ | refine N_block_pass rfl ?_ | refine sp1 ?_ | refine sg1 ?_ | refine WL_nil ?_)
    refine W_cond rfl (by simp) (fun hc => ?_) (fun hc => ?_)
    · repeat (first | refine stp ?_ | refine N_block_pass rfl ?_ | refine sp1 ?_ | refine sg1 ?_ | refine WL_nil ?_)
      rw [hsl]
      refine W_drawW 24 (by kernel_rfl) (by kernel_rfl) (by kernel_rfl) (by rw [hn]; rfl) rfl rfl ?_
      repeat (first | refine dp1 ?_ | refine dg1 ?_ | refine DrawW_nil ?_)
      refine DrawW_cons rfl (ops_of (opys_call t1 rfl rfl rfl (by first | trivial | (simp; done) | (simp; omega) | (simp at *; done) | (simp at *; omega)) rfl rfl rfl) rfl) ?_
      repeat (first | refine dp1 ?_ | refine dg1 ?_ | refine DrawW_nil ?_)
      refine DrawW_cons rfl (ops_of (opys_call t2 rfl rfl rfl (by first | trivial | (simp; done) | (simp; omega) | (simp at *; done) | (simp at *; omega)) rfl rfl rfl) rfl) ?_
      repeat (first | refine dp1 ?_ | refine dg1 ?_ | refine DrawW_nil ?_)
      refine DrawW_cons rfl (ops_of (opys_call t3 rfl rfl rfl (by first | trivial | (simp; done) | (simp; omega) | (simp at *; done) | (simp at *; omega)) rfl rfl rfl) rfl) ?_
      repeat (first | refine dp1 ?_ | refine dg1 ?_ | refine DrawW_nil ?_)
      refine DrawW_cons rfl (ops_of (opys_call t4 rfl rfl rfl (by first | trivial | (simp; done) | (simp; omega) | (simp at *; done) | (simp at *; omega)) rfl rfl rfl) rfl) ?_
      repeat (first | refine dp1 ?_ | refine dg1 ?_ | refine DrawW_nil ?_)
      refine DrawW_cons rfl (ops_of (opys_call t5 rfl rfl rfl (by first | trivial | (simp; done) | (simp; omega) | (simp at *; done) | (simp at *; omega)) rfl rfl rfl) rfl) ?_
      repeat (first | refine dp1 ?_ | refine dg1 ?_ | refine DrawW_nil ?_)
      refine DrawW_cons rfl (ops_pure true rfl rfl ?_) ?_
      · simp only [ByteArray.size_append, size_str, tw2_len, hz, List.length_append, List.length_cons, List.length_nil]
        simp [AllP]
      repeat (first | refine dp1 ?_ | refine dg1 ?_ | refine DrawW_nil ?_)
      repeat (first | refine stp ?_ | refine N_block_pass rfl ?_ | refine sp1 ?_ | refine sg1 ?_ | refine WL_nil ?_)
      refine rt2 [] ?_ ?_
      · exact congrArg (fun x => lv (.string x)) (ex2 (tw2 (y % 100)) trivial)
      · trivial
    · simp at hc
end Go.Proofs.Ythalijmfhllgbaa

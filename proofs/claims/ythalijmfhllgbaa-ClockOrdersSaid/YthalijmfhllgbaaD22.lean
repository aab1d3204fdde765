/-
  Clock: times there and back, their order. No program in sight. The conditions: right times.
-/
import Derived.Test.YthalijmfhllgbaaD14
import Derived.Test.YthalijmfhllgbaaD16
import Derived.Test.YthalijmfhllgbaaSxV
namespace Go.Proofs.Ythalijmfhllgbaa
set_option linter.unusedSimpArgs false
set_option linter.unusedVariables false
open Go.Sx Dt

set_option maxRecDepth 10000

def exPs : List Pc := [(2049, 4, ByteArray.mk #[45]), (12, 2, ByteArray.mk #[45]), (31, 2, ByteArray.mk #[84]), (23, 2, ByteArray.mk #[58]), (59, 2, ByteArray.mk #[58]), (59, 2, ByteArray.mk #[90])]
theorem exPs_ok : ∀ p ∈ exPs, pcOk p := by
  intro p hp
  simp only [exPs, List.mem_cons, List.not_mem_nil, or_false] at hp
  rcases hp with rfl | rfl | rfl | rfl | rfl | rfl <;> (unfold pcOk; decide)
theorem text10_ex : Ct Try.prog 81 [lv (.int .i64 2524607999)] [] (.tup [lv (.string (ByteArray.mk #[50, 48, 52, 57, 45, 49, 50, 45, 51, 49, 84, 50, 51, 58, 53, 57, 58, 53, 57, 90])), lv (.int .i64 0)]) [] [] := by
  have hat := pat_ok 2524607999 (by decide +kernel)
  unfold atC at hat
  rw [show ofY (2524607999 / 86400) = 2049 by decide +kernel, show ofM (2524607999 / 86400) = 12 by decide +kernel, show ofD (2524607999 / 86400) = 31 by decide +kernel, show (2524607999 : Int) % 86400 / 3600 = 23 by decide +kernel, show (2524607999 : Int) % 86400 / 60 % 60 = 59 by decide +kernel, show (2524607999 : Int) % 86400 % 60 = 59 by decide +kernel] at hat
  have hpl : pcsL exPs = [50, 48, 52, 57, 45, 49, 50, 45, 51, 49, 84, 50, 51, 58, 53, 57, 58, 53, 57, 90] := by decide +kernel
  have hwr := written_ok exPs (by decide) exPs_ok (by rw [hpl]; decide) (by rw [hpl]; decide) (by decide)
  rw [hpl] at hwr
  refine Ct_intro Try.func81 rfl rfl rfl rfl rfl (fun E hn hb => ?_)
  repeat (first | refine stp ?_ | refine N_block_pass rfl ?_ | refine sp1 ?_ | refine sg1 ?_ | refine WL_nil ?_)
  refine s_call0 hat rfl rfl rfl (by rw [hn]; rfl) rfl rfl (by first | trivial | (simp; done) | (simp; omega) | (simp at *; done) | (simp at *; omega)) rfl rfl rfl ?_
  repeat (first | refine stp ?_ | refine N_block_pass rfl ?_ | refine sp1 ?_ | refine sg1 ?_ | refine WL_nil ?_)
  refine s_allocN rfl rfl rfl (by rw [hn]; rfl) rfl zok122 ?_
  refine s_storeN rfl rfl rfl rfl rfl (by first | trivial | (simp; done) | (simp; omega) | (simp at *; done) | (simp at *; omega)) rfl rfl rfl (by rw [cellsOf122]; rfl) (by rw [info122]; rfl) rfl rfl ?_
  repeat (first | refine stp ?_ | refine N_block_pass rfl ?_ | refine sp1 ?_ | refine sg1 ?_ | refine WL_nil ?_)
  refine W_cond rfl (by simp) (fun hc => ?_) (fun hc => ?_)
  · simp at hc
  repeat (first | refine stp ?_ | refine N_block_pass rfl ?_ | refine sp1 ?_ | refine sg1 ?_ | refine WL_nil ?_)
  refine WL_q (opq_of (opy_lit (d := (.recs 3 (exPs.map pcR))) rfl (elt_mk Try.underlying229 rfl rfl) zok191 rfl (by first | trivial | (simp; done) | (simp; omega) | (simp at *; done) | (simp at *; omega)) rfl ⟨by decide, by decide, rfl, rfl⟩) rfl) (by rw [hn]; rfl) ?_
  refine s_call0 hwr rfl rfl rfl (by rw [hn]; rfl) rfl rfl (by first | trivial | (simp; done) | (simp; omega) | (simp at *; done) | (simp at *; omega)) rfl rfl rfl ?_
  repeat (first | refine stp ?_ | refine N_block_pass rfl ?_ | refine sp1 ?_ | refine sg1 ?_ | refine WL_nil ?_)
  exact rt1 []
set_option maxHeartbeats 4000000 in
theorem known10ex_ok : Ct Try.prog 24 [] [] (lv (.bool true)) [] [] := by
  have e1 : parse10 23 [52, 57, 49, 50, 51, 49, 50, 51, 53, 57, 53, 57, 90] = (23, 2524607999, 0) := by decide +kernel
  have e2 : parse10 23 [53, 48, 48, 49, 48, 49, 48, 48, 48, 48, 48, 48, 90] = (23, -631152000, 0) := by decide +kernel
  have e3 : parse10 23 [52, 57, 49, 50, 51, 49, 50, 51, 53, 57, 90] = (0, 0, 6) := by decide +kernel
  have p1 := parse10_ok 23 [52, 57, 49, 50, 51, 49, 50, 51, 53, 57, 53, 57, 90] (by decide)
  have p2 := parse10_ok 23 [53, 48, 48, 49, 48, 49, 48, 48, 48, 48, 48, 48, 90] (by decide)
  have p3 := parse10_ok 23 [52, 57, 49, 50, 51, 49, 50, 51, 53, 57, 90] (by decide)
  rw [e1] at p1
  rw [e2] at p2
  rw [e3] at p3
  have e4 : whole10 24 2524607999 = [24, 15, 50, 48, 52, 57, 49, 50, 51, 49, 50, 51, 53, 57, 53, 57, 90] := by decide +kernel
  have hwr := write10_ok 24 2524607999 (by decide +kernel)
  rw [e4] at hwr
  have hnew := curnew_ok [24, 15, 50, 48, 52, 57, 49, 50, 51, 49, 50, 51, 53, 57, 53, 57, 90] (by decide)
  have e5 : readTm (lkS true) [24, 15, 50, 48, 52, 57, 49, 50, 51, 49, 50, 51, 53, 57, 53, 57, 90] 0 = ((0, 0), 0, 6) := by decide +kernel
  have hrd := creadS_ok [24, 15, 50, 48, 52, 57, 49, 50, 51, 49, 50, 51, 53, 57, 53, 57, 90] 0 (by decide) (by decide) (by unfold WfB; decide)
  rw [e5] at hrd
  have htx := text10_ex
  refine Ct_intro Try.func24 rfl rfl rfl rfl rfl (fun E hn hb => ?_)
  repeat (first | refine stp ?_ | refine N_block_pass rfl ?_ | refine sp1 ?_ | refine sg1 ?_ | refine WL_nil ?_)
  refine s_litC rfl rfl rfl (by rw [hn]; rfl) rfl rfl (by rw [hn]; rfl) (elt_mk Try.underlying24 rfl rfl) Try.underlying5 zok5 rfl (by first | trivial | (simp; done) | (simp; omega) | (simp at *; done) | (simp at *; omega)) rfl ⟨by decide, by decide, rfl⟩ ?_
  repeat (first | refine stp ?_ | refine N_block_pass rfl ?_ | refine sp1 ?_ | refine sg1 ?_ | refine WL_nil ?_)
  refine s_call0 p1 rfl rfl rfl (by rw [hn]; rfl) rfl rfl (by first | trivial | (simp; done) | (simp; omega) | (simp at *; done) | (simp at *; omega)) rfl rfl rfl ?_
  repeat (first | refine stp ?_ | refine N_block_pass rfl ?_ | refine sp1 ?_ | refine sg1 ?_ | refine WL_nil ?_)
  refine s_allocN rfl rfl rfl (by rw [hn]; rfl) rfl zok44 ?_
  refine s_storeN rfl rfl rfl rfl rfl (by first | trivial | (simp; done) | (simp; omega) | (simp at *; done) | (simp at *; omega)) rfl rfl rfl (by rw [cellsOf44]; rfl) (by rw [info44]; rfl) rfl rfl ?_
  repeat (first | refine stp ?_ | refine N_block_pass rfl ?_ | refine sp1 ?_ | refine sg1 ?_ | refine WL_nil ?_)
  refine s_call0 htx rfl rfl rfl (by rw [hn]; rfl) rfl rfl (by first | trivial | (simp; done) | (simp; omega) | (simp at *; done) | (simp at *; omega)) rfl rfl rfl ?_
  repeat (first | refine stp ?_ | refine N_block_pass rfl ?_ | refine sp1 ?_ | refine sg1 ?_ | refine WL_nil ?_)
  refine s_litC rfl rfl rfl (by rw [hn]; rfl) rfl rfl (by rw [hn]; rfl) (elt_mk Try.underlying24 rfl rfl) Try.underlying5 zok5 rfl (by first | trivial | (simp; done) | (simp; omega) | (simp at *; done) | (simp at *; omega)) rfl ⟨by decide, by decide, rfl⟩ ?_
  repeat (first | refine stp ?_ | refine N_block_pass rfl ?_ | refine sp1 ?_ | refine sg1 ?_ | refine WL_nil ?_)
  refine s_call0 p2 rfl rfl rfl (by rw [hn]; rfl) rfl rfl (by first | trivial | (simp; done) | (simp; omega) | (simp at *; done) | (simp at *; omega)) rfl rfl rfl ?_
  repeat (first | refine stp ?_ | refine N_block_pass rfl ?_ | refine sp1 ?_ | refine sg1 ?_ | refine WL_nil ?_)
  refine s_allocN rfl rfl rfl (by rw [hn]; rfl) rfl zok44 ?_
  refine s_storeN rfl rfl rfl rfl rfl (by first | trivial | (simp; done) | (simp; omega) | (simp at *; done) | (simp at *; omega)) rfl rfl rfl (by rw [cellsOf44]; rfl) (by rw [info44]; rfl) rfl rfl ?_
  repeat (first | refine stp ?_ | refine N_block_pass rfl ?_ | refine sp1 ?_ | refine sg1 ?_ | refine WL_nil ?_)
  refine s_litC rfl rfl rfl (by rw [hn]; rfl) rfl rfl (by rw [hn]; rfl) (elt_mk Try.underlying24 rfl rfl) Try.underlying5 zok5 rfl (by first | trivial | (simp; done) | (simp; omega) | (simp at *; done) | (simp at *; omega)) rfl ⟨by decide, by decide, rfl⟩ ?_
  repeat (first | refine stp ?_ | refine N_block_pass rfl ?_ | refine sp1 ?_ | refine sg1 ?_ | refine WL_nil ?_)
  refine s_call0 p3 rfl rfl rfl (by rw [hn]; rfl) rfl rfl (by first | trivial | (simp; done) | (simp; omega) | (simp at *; done) | (simp at *; omega)) rfl rfl rfl ?_
  repeat (first | refine stp ?_ | refine N_block_pass rfl ?_ | refine sp1 ?_ | refine sg1 ?_ | refine WL_nil ?_)
  refine s_allocN rfl rfl rfl (by rw [hn]; rfl) rfl zok44 ?_
  refine s_storeN rfl rfl rfl rfl rfl (by first | trivial | (simp; done) | (simp; omega) | (simp at *; done) | (simp at *; omega)) rfl rfl rfl (by rw [cellsOf44]; rfl) (by rw [info44]; rfl) rfl rfl ?_
  repeat (first | refine stp ?_ | refine N_block_pass rfl ?_ | refine sp1 ?_ | refine sg1 ?_ | refine WL_nil ?_)
  refine s_call0 hwr rfl rfl rfl (by rw [hn]; rfl) rfl rfl (by first | trivial | (simp; done) | (simp; omega) | (simp at *; done) | (simp at *; omega)) rfl rfl rfl ?_
  repeat (first | refine stp ?_ | refine N_block_pass rfl ?_ | refine sp1 ?_ | refine sg1 ?_ | refine WL_nil ?_)
  refine s_call [] hnew rfl rfl (by rw [hn]; rfl) rfl rfl (by trivial) ⟨rfl, trivial, trivial, rfl⟩ ?_
  repeat (first | refine stp ?_ | refine N_block_pass rfl ?_ | refine sp1 ?_ | refine sg1 ?_ | refine WL_nil ?_)
  refine s_call [110] hrd rfl rfl (by rw [hn]; rfl) rfl rfl (by trivial) ⟨rfl, rfl, (by simp [ordL]), rfl⟩ ?_
  repeat (first | refine stp ?_ | refine N_block_pass rfl ?_ | refine sp1 ?_ | refine sg1 ?_ | refine WL_nil ?_)
  refine s_allocN rfl rfl rfl (by rw [hn]; rfl) rfl zok44 ?_
  refine s_storeN rfl rfl rfl rfl rfl (by first | trivial | (simp; done) | (simp; omega) | (simp at *; done) | (simp at *; omega)) rfl rfl rfl (by rw [cellsOf44]; rfl) (by rw [info44]; rfl) rfl rfl ?_
  iterate 3 (first | refine stp ?_ | refine N_block_pass rfl ?_ | refine sp1 ?_ | refine sg1 ?_ | refine WL_nil ?_)
  refine W_weaken (St.le_of (l := [(2, lv (.int .i64 0)), (3, lv (.string (ByteArray.mk #[50, 48, 52, 57, 45, 49, 50, 45, 51, 49, 84, 50, 51, 58, 53, 57, 58, 53, 57, 90]))), (4, lv (.int .i64 0)), (5, .c (.ptr 69 0)), (6, lv (.int .i64 0)), (8, lv (.int .i64 6)), (10, lv (.int .i64 0)), (12, lv (.int .i64 6))]) (h := [(69, .cells [i64c 23, i64c (-631152000)])]) (by refine ⟨?_, ?_⟩ <;> (repeat' (first | exact trivial | exact rfl | refine ⟨?_, ?_⟩)) <;> first | exact rfl | (simp; done) | skip)) ?_
  repeat (first | refine stp ?_ | refine N_block_pass rfl ?_ | refine WL_gT rfl rfl ?_ | refine sp1 ?_ | refine WL_nil ?_)
  simp only [beq_self_eq_true, cond_true]
  repeat (first | refine stp ?_ | refine N_block_pass rfl ?_ | refine WL_gT rfl rfl ?_ | refine sp1 ?_ | refine WL_nil ?_)
  exact rt1 []
end Go.Proofs.Ythalijmfhllgbaa

namespace Go.Proofs.Ythalijmfhllgbaa
set_option linter.unusedSimpArgs false
set_option linter.unusedVariables false
open Go.Sx Dt

theorem momL_24 (y m d h i s : Int) : momL 24 y m d h i s = tw2 (y / 100) ++ (tw2 (y % 100) ++ (tw2 m ++ (tw2 d ++ (tw2 h ++ (tw2 i ++ (tw2 s ++ [90])))))) := by
  simp [momL, tws2]
theorem momL_23 (y m d h i s : Int) : momL 23 y m d h i s = tw2 (y % 100) ++ (tw2 m ++ (tw2 d ++ (tw2 h ++ (tw2 i ++ (tw2 s ++ [90]))))) := by
  simp [momL, tws2]
/-- A moment's parts, small. -/
theorem at_parts2 {s : Int} (h : atB s = true) : rightC (ofY (s / 86400)) (ofM (s / 86400)) (ofD (s / 86400)) (s % 86400 / 3600) (s % 86400 / 60 % 60) (s % 86400 % 60) = true ∧
    secC (ofY (s / 86400)) (ofM (s / 86400)) (ofD (s / 86400)) (s % 86400 / 3600) (s % 86400 / 60 % 60) (s % 86400 % 60) = s := at_right h
theorem near_of {s : Int} (h : rightM 23 s = true) : 1950 ≤ ofY (s / 86400) ∧ ofY (s / 86400) ≤ 2049 := by
  unfold rightM kindN at h
  split at h
  · split at h
    · rename_i hn
      simpa [nearB] using hn
    · simp at h
  · simp at h
/-! Their order. -/
theorem cmp_tw2 {a b : Int} (ha : 0 ≤ a ∧ a ≤ 99) (hb : 0 ≤ b ∧ b ≤ 99) (s t : List Int) : cmpL (tw2 a ++ s) (tw2 b ++ t) = if a < b then -1 else if b < a then 1 else cmpL s t := by
  show cmpL ((48 + a / 10 % 10) :: (48 + a % 10) :: s) ((48 + b / 10 % 10) :: (48 + b % 10) :: t) = _
  simp only [cmpL]
  (repeat' split) <;> first | rfl | omega
theorem cmp90 : cmpL [90] [90] = 0 := by decide
theorem chain_y {y1 y2 : Int} (R : Int) : (if y1 / 100 < y2 / 100 then -1 else if y2 / 100 < y1 / 100 then 1 else if y1 % 100 < y2 % 100 then -1 else if y2 % 100 < y1 % 100 then 1 else R) = if y1 < y2 then (-1 : Int) else if y2 < y1 then 1 else R := by
  (repeat' split) <;> first | rfl | omega
theorem chain_d {y1 y2 m1 m2 d1 d2 n1 n2 : Int} (k1 : n1 < n2 ↔ y1 < y2 ∨ y1 = y2 ∧ (m1 < m2 ∨ m1 = m2 ∧ d1 < d2)) (k2 : n2 < n1 ↔ y2 < y1 ∨ y2 = y1 ∧ (m2 < m1 ∨ m2 = m1 ∧ d2 < d1)) (R : Int) :
    (if y1 < y2 then -1 else if y2 < y1 then 1 else if m1 < m2 then -1 else if m2 < m1 then 1 else if d1 < d2 then -1 else if d2 < d1 then 1 else R) = if n1 < n2 then (-1 : Int) else if n2 < n1 then 1 else R := by
  simp only [k1, k2]
  clear k1 k2
  (repeat' split) <;> first | rfl | omega
theorem chain_t {n1 n2 p1 p2 p3 q1 q2 q3 a b : Int} (h1 : 0 ≤ p1 ∧ p1 ≤ 23 ∧ 0 ≤ p2 ∧ p2 ≤ 59 ∧ 0 ≤ p3 ∧ p3 ≤ 59) (h2 : 0 ≤ q1 ∧ q1 ≤ 23 ∧ 0 ≤ q2 ∧ q2 ≤ 59 ∧ 0 ≤ q3 ∧ q3 ≤ 59) (s1 : n1 * 86400 + 3600 * p1 + 60 * p2 + p3 = a) (s2 : n2 * 86400 + 3600 * q1 + 60 * q2 + q3 = b) :
    (if n1 < n2 then -1 else if n2 < n1 then 1 else if p1 < q1 then -1 else if q1 < p1 then 1 else if p2 < q2 then -1 else if q2 < p2 then 1 else if p3 < q3 then -1 else if q3 < p3 then 1 else 0) = if a < b then (-1 : Int) else if b < a then 1 else 0 := by
  subst s1 s2
  (repeat' split) <;> first | rfl | omega
theorem con_order {a b : Int} (ha : atB a = true) (hb : atB b = true) : cmpL (con10 24 a) (con10 24 b) = if a < b then -1 else if b < a then 1 else 0 := by
  have h1 := at_parts ha
  have h2 := at_parts hb
  obtain ⟨r1, s1⟩ := at_parts2 ha
  obtain ⟨r2, s2⟩ := at_parts2 hb
  simp only [rightC, rightD, Bool.and_eq_true, decide_eq_true_eq] at r1 r2
  have k1 := num_lt (y := ofY (a / 86400)) (m := ofM (a / 86400)) (d := ofD (a / 86400)) (y' := ofY (b / 86400)) (m' := ofM (b / 86400)) (d' := ofD (b / 86400)) ⟨by omega, by omega⟩ ⟨by omega, by omega⟩
  have k2 := num_lt (y := ofY (b / 86400)) (m := ofM (b / 86400)) (d := ofD (b / 86400)) (y' := ofY (a / 86400)) (m' := ofM (a / 86400)) (d' := ofD (a / 86400)) ⟨by omega, by omega⟩ ⟨by omega, by omega⟩
  unfold secC at s1 s2
  unfold con10
  clear r1 r2 ha hb
  generalize ofY (a / 86400) = y1 at *
  generalize ofM (a / 86400) = m1 at *
  generalize ofD (a / 86400) = d1 at *
  generalize a % 86400 / 3600 = p1 at *
  generalize a % 86400 / 60 % 60 = p2 at *
  generalize a % 86400 % 60 = p3 at *
  generalize ofY (b / 86400) = y2 at *
  generalize ofM (b / 86400) = m2 at *
  generalize ofD (b / 86400) = d2 at *
  generalize b % 86400 / 3600 = q1 at *
  generalize b % 86400 / 60 % 60 = q2 at *
  generalize b % 86400 % 60 = q3 at *
  generalize numD y1 m1 d1 = n1 at *
  generalize numD y2 m2 d2 = n2 at *
  rw [momL_24, momL_24, cmp_tw2 (by omega) (by omega), cmp_tw2 (by omega) (by omega), cmp_tw2 (by omega) (by omega), cmp_tw2 (by omega) (by omega), cmp_tw2 (by omega) (by omega), cmp_tw2 (by omega) (by omega), cmp_tw2 (by omega) (by omega), cmp90, chain_y, chain_d k1 k2]
  exact chain_t (by omega) (by omega) s1 s2
theorem con_order23 {a b : Int} (ha : rightM 23 a = true) (hb : rightM 23 b = true) (hm : a < 946684800 ↔ b < 946684800) : cmpL (con10 23 a) (con10 23 b) = cmpL (con10 24 a) (con10 24 b) := by
  have h1 := at_parts (right_at ha).1
  have h2 := at_parts (right_at hb).1
  have n1 := near_of ha
  have n2 := near_of hb
  have key : ∀ {s : Int}, atB s = true → (s < 946684800 ↔ ofY (s / 86400) < 2000) := by
    intro s hs
    obtain ⟨r1, s1⟩ := at_parts2 hs
    have hp := at_parts hs
    simp only [rightC, rightD, Bool.and_eq_true, decide_eq_true_eq] at r1
    have hy := num_year (y := ofY (s / 86400)) (m := ofM (s / 86400)) (d := ofD (s / 86400)) ⟨by omega, by omega⟩
    unfold secC at s1
    have h0 : yst 2000 = 10957 := by decide
    constructor
    · intro h
      rcases Int.lt_or_le (ofY (s / 86400)) 2000 with hc | hc
      · exact hc
      · exfalso
        have : yst 2000 ≤ yst (ofY (s / 86400)) := by
          by_cases hh : 2000 < ofY (s / 86400)
          · have := yst_mono hh
            have := lp_01 2000
            omega
          · rw [show ofY (s / 86400) = 2000 by omega]; exact Int.le_refl _
        omega
    · intro h
      have : yst (ofY (s / 86400) + 1) ≤ yst 2000 := by
        by_cases hh : ofY (s / 86400) + 1 < 2000
        · have := yst_mono hh
          have := lp_01 (ofY (s / 86400) + 1)
          omega
        · rw [show ofY (s / 86400) + 1 = 2000 by omega]; exact Int.le_refl _
      omega
  have c1 := key (right_at ha).1
  have c2 := key (right_at hb).1
  unfold con10
  clear key ha hb
  generalize ofY (a / 86400) = y1 at *
  generalize ofM (a / 86400) = m1 at *
  generalize ofD (a / 86400) = d1 at *
  generalize a % 86400 / 3600 = p1 at *
  generalize a % 86400 / 60 % 60 = p2 at *
  generalize a % 86400 % 60 = p3 at *
  generalize ofY (b / 86400) = y2 at *
  generalize ofM (b / 86400) = m2 at *
  generalize ofD (b / 86400) = d2 at *
  generalize b % 86400 / 3600 = q1 at *
  generalize b % 86400 / 60 % 60 = q2 at *
  generalize b % 86400 % 60 = q3 at *
  rw [momL_24, momL_24, momL_23, momL_23, cmp_tw2 (a := y1 / 100) (by omega) (by omega), if_neg (by omega), if_neg (by omega)]
end Go.Proofs.Ythalijmfhllgbaa

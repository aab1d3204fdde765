/-
  Clock: times there and back, their order. No program in sight. The conditions: right times.
-/
import Derived.Test.YthalijmfhllgbaaD14
import Derived.Test.YthalijmfhllgbaaD16
import Derived.Test.YthalijmfhllgbaaSxV
namespace Go.Proofs.Ythalijmfhllgbaa
set_option linter.unusedSimpArgs false
set_option linter.unusedVariables false
open Go.Sx Dt

set_option maxRecDepth 10000

def exPs : List Pc := [(2049, 4, ByteArray.mk #[45]), (12, 2, ByteArray.mk #[45]), (31, 2, ByteArray.mk #[84]), (23, 2, ByteArray.mk #[58]), (59, 2, ByteArray.mk #[58]), (59, 2, ByteArray.mk #[90])]
theorem exPs_ok : ∀ p ∈ exPs, pcOk p := by
  intro p hp
  simp only [exPs, List.mem_cons, List.not_mem_nil, or_false] at hp
  rcases hp with rfl | rfl | rfl | rfl | rfl | rfl <;> (unfold pcOk; decide)
theorem text10_ex : Ct Try.prog 81 [lv (.int .i64 2524607999)] [] (.tup [lv (.string (ByteArray.mk #[50, 48, 52, 57, 45, 49, 50, 45, 51, 49, 84, 50, 51, 58, 53, 57, 58, 53, 57, 90])), lv (.int .i64 0)]) [] [] := by
  have hat := pat_ok 2524607999 (by decide +kernel)
  unfold atC at hat
  rw [show ofY (2524607999 / 86400) = 2049 by decide +kernel, show ofM (2524607999 / 86400) = 12 by decide +kernel, show ofD (2524607999 / 86400) = 31 by decide +kernel, show (2524607999 : Int) % 86400 / 3600 = 23 by decide +kernel, show (2524607999 : Int) % 86400 / 60 % 60 = 59 by decide +kernel, show (2524607999 : Int) % 86400 % 60 = 59 by decide +kernel] at hat
  have hpl : pcsL exPs = [50, 48, 52, 57, 45, 49, 50, 45, 51, 49, 84, 50, 51, 58, 53, 57, 58, 53, 57, 90] := by decide +kernel
  have hwr := written_ok exPs (by decide) exPs_ok (by rw [hpl]; decide) (by rw [hpl]; decide) (by decide)
  rw [hpl] at hwr
  refine Ct_intro Try.func81 rfl rfl rfl rfl rfl (fun E hn hb => ?_)
  repeat (first | refine stp ?_ | refine N_block_pass rfl ?_ | refine sp1 ?_ | refine sg1 ?_ | refine WL_nil ?_)
  refine s_call0 hat rfl rfl rfl (by rw [hn]; rfl) rfl rfl (by first | trivial | (simp; done) | (simp; omega) | (simp at *; done) | (simp at *; omega)) rfl rfl rfl ?_
  repeat (first | refine stp ?_ | refine N_block_pass rfl ?_ | refine sp1 ?_ | refine sg1 ?_ | refine WL_nil ?_)
  refine s_allocN rfl rfl rfl (by rw [hn]; rfl) rfl zok122 ?_
  refine s_storeN rfl rfl rfl rfl rfl (by first | trivial | (simp; done) | (simp; omega) | (simp at *; done) | (simp at *; omega)) rfl rfl rfl (by rw [cellsOf122]; rfl) (by rw [info122]; rfl) rfl rfl ?_
  repeat (first | refine stp ?_ | refine N_block_pass rfl ?_ | refine sp1 ?_ | refine sg1 ?_ | refine WL_nil ?_)
  refine W_cond rfl (by simp) (fun hc => ?_) (fun hc => ?_)
  · simp at hc
  repeat (first | refine stp ?_ | refine N_block_pass rfl ?_ | refine sp1 ?_ | refine sg1 ?_ | refine WL_nil ?_)
  refine WL_q (opq_of (opy_lit (d := (.recs 3 (exPs.map pcR))) rfl (elt_mk Try.underlying229 rfl rfl) zok191 rfl (by first | trivial | (simp; done) | (simp; omega) | (simp at *; done) | (simp at *; omega)) rfl ⟨by decide, by decide, rfl, rfl⟩) rfl) (by rw [hn]; rfl) ?_
  refine s_call0 hwr rfl rfl rfl (by rw [hn]; rfl) rfl rfl (by first | trivial | (simp; done) | (simp; omega) | (simp at *; done) | (simp at *; omega)) rfl rfl rfl ?_
  repeat (first | refine stp ?_ | refine N_block_pass rfl ?_ | refine sp1 ?_ | refine sg1 ?_ | refine WL_nil ?_)
  exact rt1 []
set_option maxHeartbeats 4000000 in
theorem known10ex_ok : Ct Try.prog 24 [] [] (lv (.bool true)) [] [] := by
  have e1 : parse10 23 [52, 57, 49, 50, 51, 49, 50, 51, 53, 57, 53, 57, 90] = (23, 2524607999, 0) := by decide +kernel
  have e2 : parse10 23 [53, 48, 48, 49, 48, 49, 48, 48, 48, 48, 48, 48, 90] = (23, -631152000, 0) := by decide +kernel
  have e3 : parse10 23 [52, 57, 49, 50, 51, 49, 50, 51, 53, 57, 90] = (0, 0, 6) := by decide +kernel
  have p1 := parse10_ok 23 [52, 57, 49, 50, 51, 49, 50, 51, 53, 57, 53, 57, 90] (by decide)
  have p2 := parse10_ok 23 [53, 48, 48, 49, 48, 49, 48, 48, 48, 48, 48, 48, 90] (by decide)
  have p3 := parse10_ok 23 [52, 57, 49, 50, 51, 49, 50, 51, 53, 57, 90] (by decide)
  rw [e1] at p1
  rw [e2] at p2
  rw [e3] at p3
  have e4 : whole10 24 2524607999 = [24, 15, 50, 48, 52, 57, 49, 50, 51, 49, 50, 51, 53, 57, 53, 57, 90] := by decide +kernel
  have hwr := write10_ok 24 2524607999 (by decide +kernel)
  rw [e4] at hwr
  have hnew := curnew_ok [24, 15, 50, 48, 52, 57, 49, 50, 51, 49, 50, 51, 53, 57, 53, 57, 90] (by decide)
  have e5 : readTm (lkS true) [24, 15, 50, 48, 52, 57, 49, 50, 51, 49, 50, 51, 53, 57, 53, 57, 90] 0 = ((0, 0), 0, 6) := by decide +kernel
  have hrd := creadS_ok [24, 15, 50, 48, 52, 57, 49, 50, 51, 49, 50, 51, 53, 57, 53, 57, 90] 0 (by decide) (by decide) (by unfold WfB; decide)
  rw [e5] at hrd
  have htx := text10_ex
  refine Ct_intro Try.func24 rfl rfl rfl rfl rfl (fun E hn hb => ?_)
  repeat (first | refine stp ?_ | refine N_block_pass rfl ?_ | refine sp1 ?_ | refine sg1 ?_ | refine WL_nil ?_)
  refine s_litC rfl rfl rfl (by rw [hn]; rfl) rfl rfl (by rw [hn]; rfl) (elt_mk Try.underlying24 rfl rfl) Try.underlying5 zok5 rfl (by first | trivial | (simp; done) | (simp; omega) | (simp at *; done) | (simp at *; omega)) rfl ⟨by decide, by decide, rfl⟩ ?_
  repeat (first | refine stp ?_ | refine N_block_pass rfl ?_ | refine sp1 ?_ | refine sg1 ?_ | refine WL_nil ?_)
  refine s_call0 p1 rfl rfl rfl (by rw [hn]; rfl) rfl rfl (by first | trivial | (simp; done) | (simp; omega) | (simp at *; done) | (simp at *; omega)) rfl rfl rfl ?_
  repeat (first | refine stp ?_ | refine N_block_pass rfl ?_ | refine sp1 ?_ | refine sg1 ?_ | refine WL_nil ?_)
  refine s_allocN rfl rfl rfl (by rw [hn]; rfl) rfl zok44 ?_
  refine s_storeN rfl rfl rfl rfl rfl (by first | trivial | (simp; done) | (simp; omega) | (simp at *; done) | (simp at *; omega)) rfl rfl rfl (by rw [cellsOf44]; rfl) (by rw [info44]; rfl) rfl rfl ?_
  repeat (first | refine stp ?_ | refine N_block_pass rfl ?_ | refine sp1 ?_ | refine sg1 ?_ | refine WL_nil ?_)
  refine s_call0 htx rfl rfl rfl (by rw [hn]; rfl) rfl rfl (by first | trivial | (simp; done) | (simp; omega) | (simp at *; done) | (simp at *; omega)) rfl rfl rfl ?_
  repeat (first | refine stp ?_ | refine N_block_pass rfl ?_ | refine sp1 ?_ | refine sg1 ?_ | refine WL_nil ?_)
  refine s_litC rfl rfl rfl (by rw [hn]; rfl) rfl rfl (by rw [hn]; rfl) (elt_mk Try.underlying24 rfl rfl) Try.underlying5 zok5 rfl (by first | trivial | (simp; done) | (simp; omega) | (simp at *; done) | (simp at *; omega)) rfl ⟨by decide, by decide, rfl⟩ ?_
  repeat (first | refine stp ?_ | refine N_block_pass rfl ?_ | refine sp1 ?_ | refine sg1 ?_ | refine WL_nil ?_)
  refine s_call0 p2 rfl rfl rfl (by rw [hn]; rfl) rfl rfl (by first | trivial | (simp; done) | (simp; omega) | (simp at *; done) | (simp at *; omega)) rfl rfl rfl ?_
  repeat (first | refine stp ?_ | refine N_block_pass rfl ?_ | refine sp1 ?_ | refine sg1 ?_ | refine WL_nil ?_)
  refine s_allocN rfl rfl rfl (by rw [hn]; rfl) rfl zok44 ?_
  refine s_storeN rfl rfl rfl rfl rfl (by first | trivial | (simp; done) | (simp; omega) | (simp at *; done) | (simp at *; omega)) rfl rfl rfl (by rw [cellsOf44]; rfl) (by rw [info44]; rfl) rfl rfl ?_
  repeat (first | refine stp ?_ | refine N_block_pass rfl ?_ | refine sp1 ?_ | refine sg1 ?_ | refine WL_nil ?_)
  refine s_litC rfl rfl rfl (by rw [hn]; rfl) rfl rfl (by rw [hn]; rfl) (elt_mk Try.underlying24 rfl rfl) Try.underlying5 zok5 rfl (by first | trivial | (simp; done) | (simp; omega) | (simp at *; done) | (simp at *; omega)) rfl ⟨by decide, by decide, rfl⟩ ?_
  repeat (first | refine stp ?_ | refine N_block_pass rfl ?_ | refine sp1 ?_ | refine sg1 ?_ | refine WL_nil ?_)
  refine s_call0 p3 rfl rfl rfl (by rw [hn]; rfl) rfl rfl (by first | trivial | (simp; done) | (simp; omega) | (simp at *; done) | (simp at *; omega)) rfl rfl rfl ?_
  repeat (first | refine stp ?_ | refine N_block_pass rfl ?_ | refine sp1 ?_ | refine sg1 ?_ | refine WL_nil ?_)
  refine s_allocN rfl rfl rfl (by rw [hn]; rfl) rfl zok44 ?_
  refine s_storeN rfl rfl rfl rfl rfl (by first | trivial | (simp; done) | (simp; omega) | (simp at *; done) | (simp at *; omega)) rfl rfl rfl (by rw [cellsOf44]; rfl) (by rw [info44]; rfl) rfl rfl ?_
  repeat (first | refine stp ?_ | refine N_block_pass rfl ?_ | refine sp1 ?_ | refine sg1 ?_ | refine WL_nil ?_)
  refine s_call0 hwr rfl rfl rfl (by rw [hn]; rfl) rfl rfl (by first | trivial | (simp; done) | (simp; omega) | (simp at *; done) | (simp at *; omega)) rfl rfl rfl ?_
  repeat (first | refine stp ?_ | refine N_block_pass rfl ?_ | refine sp1 ?_ | refine sg1 ?_ | refine WL_nil ?_)
  refine s_call [] hnew rfl rfl (by rw [hn]; rfl) rfl rfl (by trivial) ⟨rfl, trivial, trivial, rfl⟩ ?_
  repeat (first | refine stp ?_ | refine N_block_pass rfl ?_ | refine sp1 ?_ | refine sg1 ?_ | refine WL_nil ?_)
  refine s_call [110] hrd rfl rfl (by rw [hn]; rfl) rfl rfl (by trivial) ⟨rfl, rfl, (by simp [ordL]), rfl⟩ ?_
  repeat (first | refine stp ?_ | refine N_block_pass rfl ?_ | refine sp1 ?_ | refine sg1 ?_ | refine WL_nil ?_)
  refine s_allocN rfl rfl rfl (by rw [hn]; rfl) rfl zok44 ?_
  refine s_storeN rfl rfl rfl rfl rfl (by first | trivial | (simp; done) | (simp; omega) | (simp at *; done) | (simp at *; omega)) rfl rfl rfl (by rw [cellsOf44]; rfl) (by rw [info44]; rfl) rfl rfl ?_
  iterate 3 (first | refine stp ?_ | refine N_block_pass rfl ?_ | refine sp1 ?_ | refine sg1 ?_ | refine WL_nil ?_)
  refine W_weaken (St.le_of (l := [(2, lv (.int .i64 0)), (3, lv (.string (ByteArray.mk #[50, 48, 52, 57, 45, 49, 50, 45, 51, 49, 84, 50, 51, 58, 53, 57, 58, 53, 57, 90]))), (4, lv (.int .i64 0)), (5, .c (.ptr 69 0)), (6, lv (.int .i64 0)), (8, lv (.int .i64 6)), (10, lv (.int .i64 0)), (12, lv (.int .i64 6))]) (h := [(69, .cells [i64c 23, i64c (-631152000)])]) (by refine ⟨?_, ?_⟩ <;> (repeat' (first | exact trivial | exact rfl | refine ⟨?_, ?_⟩)) <;> first | exact rfl | (simp; done) | skip)) ?_
  repeat (first | refine stp ?_ | refine N_block_pass rfl ?_ | refine WL_gT rfl rfl ?_ | refine sp1 ?_ | refine WL_nil ?_)
  simp only [beq_self_eq_true, cond_true]
  repeat (first | refine stp ?_ | refine N_block_pass rfl ?_ | refine WL_gT rfl rfl ?_ | refine sp1 ?_ | refine WL_nil ?_)
  exact rt1 []
end Go.Proofs.Ythalijmfhllgbaa

namespace Go.Proofs.Ythalijmfhllgbaa
set_option linter.unusedSimpArgs false
set_option linter.unusedVariables false
open Go.Sx Dt

theorem rd2_tw2 {n : Int} (h : 0 ≤ n ∧ n ≤ 99) (t : List Int) (b : Bool) : rd2 (tw2 n ++ t) b = (n, t, b) := by
  have e := rd2_cons (x := 48 + n / 10 % 10) (y := 48 + n % 10) t (by simp [isDig]; omega) (by simp [isDig]; omega) b
  show rd2 ((48 + n / 10 % 10) :: (48 + n % 10) :: t) b = _
  rw [e]
  congr 1
  omega
theorem tw2_val {x y : Int} (hx : isDig x = true) (hy : isDig y = true) : tw2 (10 * (x - 48) + (y - 48)) = [x, y] := by
  simp [isDig] at hx hy
  simp only [tw2, List.cons.injEq, and_true]
  omega
theorem momL_24 (y m d h i s : Int) : momL 24 y m d h i s = tw2 (y / 100) ++ (tw2 (y % 100) ++ (tw2 m ++ (tw2 d ++ (tw2 h ++ (tw2 i ++ (tw2 s ++ [90])))))) := by
  simp [momL, tws2]
theorem momL_23 (y m d h i s : Int) : momL 23 y m d h i s = tw2 (y % 100) ++ (tw2 m ++ (tw2 d ++ (tw2 h ++ (tw2 i ++ (tw2 s ++ [90]))))) := by
  simp [momL, tws2]
/-- A moment's parts, small. -/
theorem at_parts2 {s : Int} (h : atB s = true) : rightC (ofY (s / 86400)) (ofM (s / 86400)) (ofD (s / 86400)) (s % 86400 / 3600) (s % 86400 / 60 % 60) (s % 86400 % 60) = true ∧
    secC (ofY (s / 86400)) (ofM (s / 86400)) (ofD (s / 86400)) (s % 86400 / 3600) (s % 86400 / 60 % 60) (s % 86400 % 60) = s := at_right h
theorem near_of {s : Int} (h : rightM 23 s = true) : 1950 ≤ ofY (s / 86400) ∧ ofY (s / 86400) ≤ 2049 := by
  unfold rightM kindN at h
  split at h
  · split at h
    · rename_i hn
      simpa [nearB] using hn
    · simp at h
  · simp at h
theorem end90 : endB [90] false = false := by simp [endB]
theorem parse_con {k s : Int} (h : rightM k s = true) : parse10 k (con10 k s) = (k, s, 0) := by
  obtain ⟨ha, hk⟩ := right_at h
  have hp := at_parts ha
  obtain ⟨hr, hs⟩ := at_parts2 ha
  have hn : k = 23 → 1950 ≤ ofY (s / 86400) ∧ ofY (s / 86400) ≤ 2049 := fun e => near_of (e ▸ h)
  clear h ha
  unfold con10
  generalize ofY (s / 86400) = y at *
  generalize ofM (s / 86400) = m at *
  generalize ofD (s / 86400) = d at *
  generalize s % 86400 / 3600 = q1 at *
  generalize s % 86400 / 60 % 60 = q2 at *
  generalize s % 86400 % 60 = q3 at *
  have key : redP k (momL k y m d q1 q2 q3) = ⟨y, m, d, q1, q2, q3, false⟩ := by
    rcases hk with rfl | rfl
    · rw [momL_24]
      have e : yr10 24 (tw2 (y / 100) ++ (tw2 (y % 100) ++ (tw2 m ++ (tw2 d ++ (tw2 q1 ++ (tw2 q2 ++ (tw2 q3 ++ [90]))))))) false = (y, tw2 m ++ (tw2 d ++ (tw2 q1 ++ (tw2 q2 ++ (tw2 q3 ++ [90])))), false) := by
        unfold yr10
        rw [rd2_tw2 (by omega)]
        dsimp only
        rw [rd2_tw2 (by omega), if_pos rfl]
        congr 1
        omega
      unfold redP
      rw [e]
      dsimp only
      rw [rd2_tw2 (by omega)]
      dsimp only
      rw [rd2_tw2 (by omega)]
      dsimp only
      rw [rd2_tw2 (by omega)]
      dsimp only
      rw [rd2_tw2 (by omega)]
      dsimp only
      rw [rd2_tw2 (by omega)]
      dsimp only
      rw [end90]
    · have hn := hn rfl
      rw [momL_23]
      have e : yr10 23 (tw2 (y % 100) ++ (tw2 m ++ (tw2 d ++ (tw2 q1 ++ (tw2 q2 ++ (tw2 q3 ++ [90])))))) false = (y, tw2 m ++ (tw2 d ++ (tw2 q1 ++ (tw2 q2 ++ (tw2 q3 ++ [90])))), false) := by
        unfold yr10
        rw [rd2_tw2 (by omega)]
        dsimp only
        rw [if_neg (by omega)]
        split <;> · congr 1; omega
      unfold redP
      rw [e]
      dsimp only
      rw [rd2_tw2 (by omega)]
      dsimp only
      rw [rd2_tw2 (by omega)]
      dsimp only
      rw [rd2_tw2 (by omega)]
      dsimp only
      rw [rd2_tw2 (by omega)]
      dsimp only
      rw [rd2_tw2 (by omega)]
      dsimp only
      rw [end90]
  have hkn : knownB k = true := by rcases hk with rfl | rfl <;> rfl
  unfold parse10
  rw [key, hkn, cond_true]
  unfold redOk
  dsimp only
  rw [hr, hs]
  rfl
/-- Of a right moment's second: its parts. -/
theorem sec_parts {y m d h i s : Int} (hr : rightC y m d h i s = true) : atB (secC y m d h i s) = true ∧ ofY (secC y m d h i s / 86400) = y ∧ ofM (secC y m d h i s / 86400) = m ∧ ofD (secC y m d h i s / 86400) = d ∧
    secC y m d h i s % 86400 / 3600 = h ∧ secC y m d h i s % 86400 / 60 % 60 = i ∧ secC y m d h i s % 86400 % 60 = s := by
  simp only [rightC, rightD, Bool.and_eq_true, decide_eq_true_eq] at hr
  obtain ⟨⟨⟨⟨⟨⟨⟨⟨⟨a1, a2⟩, a3⟩, a4⟩, b1⟩, b2⟩, b3⟩, b4⟩, b5⟩, b6⟩ := hr
  have hy := num_year ⟨a3, a4⟩
  have h0 : yst 0 = -719528 := by decide
  have hM : yst 10000 = 2932897 := by decide
  have hlo : -719528 ≤ numD y m d := by
    have : yst 0 ≤ yst y := by
      by_cases h : (0 : Int) < y
      · have := yst_mono h
        have := lp_01 0
        omega
      · rw [show y = 0 by omega]; exact Int.le_refl _
    omega
  have hhi : numD y m d ≤ 2932896 := by
    have : yst (y + 1) ≤ yst 10000 := by
      by_cases h : y + 1 < 10000
      · have := yst_mono h
        have := lp_01 (y + 1)
        omega
      · rw [show y + 1 = 10000 by omega]; exact Int.le_refl _
    omega
  have e1 : secC y m d h i s / 86400 = numD y m d := by unfold secC; omega
  have e2 : secC y m d h i s % 86400 = 3600 * h + 60 * i + s := by unfold secC; omega
  rw [e1, e2]
  obtain ⟨g1, g2⟩ := of_spec hlo hhi
  simp only [rightD, Bool.and_eq_true, decide_eq_true_eq] at g1
  obtain ⟨k1, k2, k3⟩ := num_inj ⟨g1.1.2, g1.2⟩ ⟨a3, a4⟩ g2
  refine ⟨?_, k1, k2, k3, by omega, by omega, by omega⟩
  simp only [atB, Bool.and_eq_true, decide_eq_true_eq]
  unfold secC
  omega
theorem rd2_back {r : List Int} {b : Bool} {v : Int} {r' : List Int} (h : rd2 r b = (v, r', false)) : b = false ∧ r = tw2 v ++ r' ∧ 0 ≤ v ∧ v ≤ 99 := by
  obtain ⟨hb, x, y, hx, hy, rfl⟩ := rd2_inv h
  rw [rd2_cons r' hx hy] at h
  simp only [Prod.mk.injEq] at h
  obtain ⟨rfl, _, _⟩ := h
  refine ⟨hb, ?_, ?_⟩
  · rw [tw2_val hx hy]; rfl
  · simp [isDig] at hx hy
    omega
theorem red_back24 {l : List Int} (h : (redP 24 l).bad = false) : l = momL 24 (redP 24 l).y (redP 24 l).m (redP 24 l).d (redP 24 l).h (redP 24 l).i (redP 24 l).s := by
  rw [momL_24]
  unfold redP yr10 at *
  simp only [if_true] at *
  generalize hT1 : rd2 l false = T at *
  obtain ⟨v1, r1, b1⟩ := T
  dsimp only at *
  generalize hT2 : rd2 r1 b1 = T at *
  obtain ⟨v2, r2, b2⟩ := T
  dsimp only at *
  generalize hT3 : rd2 r2 b2 = T at *
  obtain ⟨v3, r3, b3⟩ := T
  dsimp only at *
  generalize hT4 : rd2 r3 b3 = T at *
  obtain ⟨v4, r4, b4⟩ := T
  dsimp only at *
  generalize hT5 : rd2 r4 b4 = T at *
  obtain ⟨v5, r5, b5⟩ := T
  dsimp only at *
  generalize hT6 : rd2 r5 b5 = T at *
  obtain ⟨v6, r6, b6⟩ := T
  dsimp only at *
  generalize hT7 : rd2 r6 b6 = T at *
  obtain ⟨v7, r7, b7⟩ := T
  dsimp only at *
  obtain ⟨rfl, rfl⟩ := end_inv h
  obtain ⟨rfl, rfl, _⟩ := rd2_back hT7
  obtain ⟨rfl, rfl, _⟩ := rd2_back hT6
  obtain ⟨rfl, rfl, _⟩ := rd2_back hT5
  obtain ⟨rfl, rfl, _⟩ := rd2_back hT4
  obtain ⟨rfl, rfl, _⟩ := rd2_back hT3
  obtain ⟨rfl, rfl, h2⟩ := rd2_back hT2
  obtain ⟨_, rfl, h1⟩ := rd2_back hT1
  rw [show (100 * v1 + v2) / 100 = v1 by omega, show (100 * v1 + v2) % 100 = v2 by omega]
theorem red_back23 {l : List Int} (h : (redP 23 l).bad = false) : l = momL 23 (redP 23 l).y (redP 23 l).m (redP 23 l).d (redP 23 l).h (redP 23 l).i (redP 23 l).s ∧ 1950 ≤ (redP 23 l).y ∧ (redP 23 l).y ≤ 2049 := by
  rw [momL_23]
  unfold redP yr10 at *
  simp only [show ¬ (23 : Int) = 24 by omega, if_false] at *
  generalize hT1 : rd2 l false = T at *
  obtain ⟨v1, r1, b1⟩ := T
  dsimp only at *
  generalize hT3 : rd2 r1 b1 = T at *
  obtain ⟨v3, r3, b3⟩ := T
  dsimp only at *
  generalize hT4 : rd2 r3 b3 = T at *
  obtain ⟨v4, r4, b4⟩ := T
  dsimp only at *
  generalize hT5 : rd2 r4 b4 = T at *
  obtain ⟨v5, r5, b5⟩ := T
  dsimp only at *
  generalize hT6 : rd2 r5 b5 = T at *
  obtain ⟨v6, r6, b6⟩ := T
  dsimp only at *
  generalize hT7 : rd2 r6 b6 = T at *
  obtain ⟨v7, r7, b7⟩ := T
  dsimp only at *
  obtain ⟨rfl, rfl⟩ := end_inv h
  obtain ⟨rfl, rfl, _⟩ := rd2_back hT7
  obtain ⟨rfl, rfl, _⟩ := rd2_back hT6
  obtain ⟨rfl, rfl, _⟩ := rd2_back hT5
  obtain ⟨rfl, rfl, _⟩ := rd2_back hT4
  obtain ⟨rfl, rfl, _⟩ := rd2_back hT3
  obtain ⟨_, rfl, h1⟩ := rd2_back hT1
  split
  · rw [show (1900 + v1) % 100 = v1 by omega]
    exact ⟨rfl, by omega⟩
  · rw [show (2000 + v1) % 100 = v1 by omega]
    exact ⟨rfl, by omega⟩
theorem con_parse {k a b : Int} {l : List Int} (h : parse10 k l = (a, b, 0)) : a = k ∧ rightM k b = true ∧ con10 k b = l := by
  unfold parse10 at h
  cases hkn : knownB k with
  | false => rw [hkn, cond_false] at h; simp at h
  | true =>
  rw [hkn, cond_true] at h
  cases hro : redOk (redP k l) with
  | false => rw [hro, cond_false] at h; simp at h
  | true =>
  rw [hro, cond_true] at h
  simp only [Prod.mk.injEq, and_true] at h
  obtain ⟨rfl, hb⟩ := h
  simp only [redOk, Bool.and_eq_true, Bool.not_eq_true'] at hro
  obtain ⟨hbad, hr⟩ := hro
  have hp := sec_parts hr
  rw [hb] at hp
  obtain ⟨p0, p1, p2, p3, p4, p5, p6⟩ := hp
  refine ⟨rfl, ?_⟩
  unfold con10
  rw [p1, p2, p3, p4, p5, p6]
  have hk : k = 23 ∨ k = 24 := by simpa [knownB] using hkn
  rcases hk with rfl | rfl
  · obtain ⟨e, h1, h2⟩ := red_back23 hbad
    refine ⟨?_, e.symm⟩
    have hn : kindN b = 23 := by
      unfold kindN
      rw [if_pos p0, p1, if_pos (by simp only [nearB, Bool.and_eq_true, decide_eq_true_eq]; omega)]
    simp [rightM, hn]
  · refine ⟨?_, (red_back24 hbad).symm⟩
    have hn : kindN b ≠ 0 := by
      unfold kindN
      rw [if_pos p0]
      split <;> decide
    simp [rightM, hn]

/-! Their order. -/
end Go.Proofs.Ythalijmfhllgbaa

/-
  Chapter 10's law ClockOrders, walked: it returns true. No condition.
-/
import Derived.Test.YthalijmfhllgbaaW20
import Derived.Test.YthalijmfhllgbaaSxX
import Derived.Test.YthalijmfhllgbaaD22
import Derived.Test.YthalijmfhllgbaaD1
import Derived.Test.YthalijmfhllgbaaSxQ
namespace Go.Proofs.Ythalijmfhllgbaa
set_option linter.unusedSimpArgs false
set_option linter.unusedVariables false
open Go.Sx

set_option maxRecDepth 10000

/-- The first place where two rows part. -/
def partL : List Int → List Int → Nat
  | x :: a, y :: b => if x = y then partL a b + 1 else 0
  | _, _ => 0
theorem part_le : ∀ a b : List Int, partL a b ≤ a.length ∧ partL a b ≤ b.length
  | [], b => by cases b <;> simp [partL]
  | x :: a, [] => by simp [partL]
  | x :: a, y :: b => by
    have := part_le a b
    simp only [partL]
    split <;> simp <;> omega
theorem part_step : ∀ (a b : List Int) (i : Nat), (∀ k, k < i → a.getD k 0 = b.getD k 0) → i < a.length → i < b.length → a.getD i 0 ≠ b.getD i 0 → partL a b = i
  | [], b, i, _, h, _, _ => by simp at h
  | x :: a, [], i, _, _, h, _ => by simp at h
  | x :: a, y :: b, 0, _, _, _, h => by simp at h; simp [partL, h]
  | x :: a, y :: b, i + 1, h, h1, h2, h3 => by
    have h0 : x = y := by simpa using h 0 (by omega)
    have := part_step a b i (fun k hk => by simpa using h (k + 1) (by omega)) (by simpa using h1) (by simpa using h2) (by simpa using h3)
    simp only [partL, h0, if_true, this]
theorem part_all : ∀ (a b : List Int), (∀ k, k < min a.length b.length → a.getD k 0 = b.getD k 0) → partL a b = min a.length b.length
  | [], b, _ => by cases b <;> simp [partL]
  | x :: a, [], _ => by simp [partL]
  | x :: a, y :: b, h => by
    have h0 : x = y := by simpa using h 0 (by simp)
    have := part_all a b (fun k hk => by simpa using h (k + 1) (by simp; omega))
    simp only [partL, h0, if_true, this]
    simp
theorem part_cmp : ∀ (a b : List Int), cmpL a b = (if partL a b < a.length ∧ partL a b < b.length then (if a.getD (partL a b) 0 < b.getD (partL a b) 0 then -1 else 1) else if partL a b < b.length then -1 else if partL a b < a.length then 1 else 0)
  | [], [] => rfl
  | [], y :: b => by simp [cmpL, partL]
  | x :: a, [] => by simp [cmpL, partL]
  | x :: a, y :: b => by
    have ih := part_cmp a b
    by_cases h : x = y
    · subst h
      simp only [cmpL, Int.lt_irrefl, if_false, partL, if_true, ih, List.length_cons, Nat.add_lt_add_iff_right, List.getD_cons_succ]
    · simp only [cmpL, partL, h, if_false, List.length_cons, Nat.zero_lt_succ, and_self, if_true, List.getD_cons_zero]
      by_cases h1 : x < y
      · simp [h1]
      · have : y < x := by omega
        simp [h1, this]

theorem parted_ok (a b : List Int) (ha : a.length ≤ 1000000) (hb' : b.length ≤ 1000000) : Ct Try.prog 98 [B8 a, B8 b] [] (lv (.int .i64 (partL a b))) [] [] := by
  refine Ct_intro Try.func98 rfl rfl rfl rfl rfl (fun E hn hb => ?_)
  repeat (first | refine stp ?_ | refine N_block_pass rfl ?_ | refine sp1 ?_ | refine sg1 ?_ | refine WL_nil ?_)
  have hN : min (a.length : Int) b.length = ((min a.length b.length : Nat) : Int) := by omega
  rw [hN]
  generalize hn0 : min a.length b.length = n at *
  refine W_weaken (St.le_of (l := [(0, B8 a), (1, B8 b), (5, lv (.int .i64 (n : Int))), (12, lv (.int .i64 (n : Int))), (13, lv (.int .i64 0))]) (h := []) (by refine ⟨?_, ?_⟩ <;> (repeat' (first | exact trivial | exact rfl | refine ⟨?_, ?_⟩)) <;> first | exact rfl | (simp; done) | skip)) ?_
  refine W_loop (ι := {i : Nat // i ≤ n ∧ ∀ k, k < i → a.getD k 0 = b.getD k 0}) (fun i => St.of [(0, B8 a), (1, B8 b), (5, lv (.int .i64 (n : Int))), (12, lv (.int .i64 (n : Int))), (13, lv (.int .i64 (i.1 : Int)))] []) (fun i => n - i.1) (fun i => ?_) ⟨0, by omega, fun k hk => by omega⟩
  obtain ⟨i, hi, he⟩ := i
  dsimp only
  repeat (first | refine stp ?_ | refine N_block_pass rfl ?_ | refine sp1 ?_ | refine sg1 ?_ | refine WL_nil ?_)
  refine W_cond rfl (by simp) (fun hc => ?_) (fun hc => ?_)
  · have hin : i < n := by simp at hc; omega
    repeat (first | refine stp ?_ | refine N_block_pass rfl ?_ | refine sp1 ?_ | refine sg1 ?_ | refine WL_nil ?_)
    refine W_drawW 9 (by kernel_rfl) (by kernel_rfl) (by kernel_rfl) (by rw [hn]; rfl) rfl rfl ?_
    repeat (first | refine dp1 ?_ | refine dg1 ?_ | refine DrawW_nil ?_)
    repeat (first | refine stp ?_ | refine N_block_pass rfl ?_ | refine sp1 ?_ | refine sg1 ?_ | refine WL_nil ?_)
    refine W_cond rfl (by simp) (fun hq => ?_) (fun hq => ?_)
    · have hne : a.getD i 0 ≠ b.getD i 0 := by simpa using hq
      rw [part_step a b i he (by omega) (by omega) hne]
      repeat (first | refine stp ?_ | refine N_block_pass rfl ?_ | refine sp1 ?_ | refine sg1 ?_ | refine WL_nil ?_)
      exact rt1 []
    · have hne : a.getD i 0 = b.getD i 0 := by simpa using hq
      repeat (first | refine stp ?_ | refine N_block_pass rfl ?_ | refine sp1 ?_ | refine sg1 ?_ | refine WL_nil ?_)
      refine N_round ⟨i + 1, by omega, fun k hk => ?_⟩ (by dsimp only; omega) (St.le_of ⟨⟨rfl, rfl, rfl, rfl, rfl⟩, trivial⟩)
      rcases Nat.lt_or_ge k i with h | h
      · exact he k h
      · have : k = i := by omega
        subst this; exact hne
  · have : i = n := by simp at hc; omega
    subst this
    rw [part_all a b (by rw [hn0]; exact he), hn0]
    repeat (first | refine stp ?_ | refine N_block_pass rfl ?_ | refine sp1 ?_ | refine sg1 ?_ | refine WL_nil ?_)
    exact rt1 []

theorem octcmp_ok (a b : List Int) (ha : a.length ≤ 1000000) (hb' : b.length ≤ 1000000) : Ct Try.prog 43 [B8 a, B8 b] [] (lv (.int .i64 (cmpL a b))) [] [] := by
  have hpc := part_cmp a b
  obtain ⟨hp1, hp2⟩ := part_le a b
  generalize cmpL a b = r at *
  refine Ct_intro Try.func43 rfl rfl rfl rfl rfl (fun E hn hb => ?_)
  repeat (first | refine stp ?_ | refine N_block_pass rfl ?_ | refine sp1 ?_ | refine sg1 ?_ | refine WL_nil ?_)
  refine s_call0 (parted_ok a b ha hb') rfl rfl rfl (by rw [hn]; rfl) rfl rfl (by first | trivial | (simp; done) | (simp; omega) | (simp at *; done) | (simp at *; omega)) rfl rfl rfl ?_
  repeat (first | refine stp ?_ | refine N_block_pass rfl ?_ | refine sp1 ?_ | refine sg1 ?_ | refine WL_nil ?_)
  generalize partL a b = n at *
  refine W_cond rfl (by simp) (fun hq => ?_) (fun hq => ?_)
  · have h1 : n < a.length ∧ n < b.length := by simpa [Bool.cond_eq_ite] using hq
    rw [if_pos h1] at hpc
    obtain ⟨h1a, h1b⟩ := h1
    repeat (first | refine stp ?_ | refine N_block_pass rfl ?_ | refine sp1 ?_ | refine sg1 ?_ | refine WL_nil ?_)
    refine W_drawW 9 (by kernel_rfl) (by kernel_rfl) (by kernel_rfl) (by rw [hn]; rfl) rfl rfl ?_
    repeat (first | refine dp1 ?_ | refine dg1 ?_ | refine DrawW_nil ?_)
    repeat (first | refine stp ?_ | refine N_block_pass rfl ?_ | refine sp1 ?_ | refine sg1 ?_ | refine WL_nil ?_)
    refine W_cond rfl (by simp) (fun hr => ?_) (fun hr => ?_)
    · have h2 : a.getD n 0 < b.getD n 0 := by simpa using hr
      rw [if_pos h2] at hpc
      subst hpc
      repeat (first | refine stp ?_ | refine N_block_pass rfl ?_ | refine sp1 ?_ | refine sg1 ?_ | refine WL_nil ?_)
      exact rt1 []
    · have h2 : ¬ a.getD n 0 < b.getD n 0 := by simpa using hr
      rw [if_neg h2] at hpc
      subst hpc
      repeat (first | refine stp ?_ | refine N_block_pass rfl ?_ | refine sp1 ?_ | refine sg1 ?_ | refine WL_nil ?_)
      exact rt1 []
  · have h1 : ¬ (n < a.length ∧ n < b.length) := by
      simp [Bool.cond_eq_ite] at hq
      omega
    rw [if_neg h1] at hpc
    repeat (first | refine stp ?_ | refine N_block_pass rfl ?_ | refine sp1 ?_ | refine sg1 ?_ | refine WL_nil ?_)
    refine W_cond rfl (by simp) (fun hr => ?_) (fun hr => ?_)
    · have h2 : n < b.length := by simpa using hr
      rw [if_pos h2] at hpc
      subst hpc
      repeat (first | refine stp ?_ | refine N_block_pass rfl ?_ | refine sp1 ?_ | refine sg1 ?_ | refine WL_nil ?_)
      exact rt1 []
    · have h2 : ¬ n < b.length := by simp at hr; omega
      rw [if_neg h2] at hpc
      repeat (first | refine stp ?_ | refine N_block_pass rfl ?_ | refine sp1 ?_ | refine sg1 ?_ | refine WL_nil ?_)
      refine W_cond rfl (by simp) (fun hu => ?_) (fun hu => ?_)
      · have h3 : n < a.length := by simpa using hu
        rw [if_pos h3] at hpc
        subst hpc
        repeat (first | refine stp ?_ | refine N_block_pass rfl ?_ | refine sp1 ?_ | refine sg1 ?_ | refine WL_nil ?_)
        exact rt1 []
      · have h3 : ¬ n < a.length := by simp at hu; omega
        rw [if_neg h3] at hpc
        subst hpc
        repeat (first | refine stp ?_ | refine N_block_pass rfl ?_ | refine sp1 ?_ | refine sg1 ?_ | refine WL_nil ?_)
        exact rt1 []

end Go.Proofs.Ythalijmfhllgbaa

namespace Go.Proofs.Ythalijmfhllgbaa
set_option linter.unusedSimpArgs false
set_option linter.unusedVariables false
open Go.Sx Dt

set_option maxRecDepth 10000

set_option maxHeartbeats 4000000 in
theorem orders10_ok (a b : Int) (ha0 : (Lit.int .i64 a).wf = true) (hb0 : (Lit.int .i64 b).wf = true) : Ct Try.prog 7 [lv (.int .i64 a), lv (.int .i64 b)] [] (lv (.bool true)) [] [] := by
  have hkn := known10ex_ok
  have g1 := general_ok a
  have g2 := general_ok b
  have r1 : kindN a ≠ 0 → rightM 24 a = true ∧ atB a = true := fun h => by
    have : rightM 24 a = true := by simp [rightM, h]
    exact ⟨this, (right_at this).1⟩
  have r2 : kindN b ≠ 0 → rightM 24 b = true ∧ atB b = true := fun h => by
    have : rightM 24 b = true := by simp [rightM, h]
    exact ⟨this, (right_at this).1⟩
  by_cases k1 : kindN a = 0
  · rw [k1] at g1
    generalize kindN b = KB at *
    refine Ct_intro Try.func7 rfl rfl rfl rfl rfl (fun E hn hb => ?_)
    repeat refine nx ?_
    exact rt1 []
  by_cases k2 : kindN b = 0
  · rw [k2] at g2
    rw [if_neg k1, if_neg k1, if_neg k1] at g1
    refine Ct_intro Try.func7 rfl rfl rfl rfl rfl (fun E hn hb => ?_)
    repeat refine nx ?_
    exact rt1 []
  obtain ⟨p1, q1⟩ := r1 k1
  obtain ⟨p2, q2⟩ := r2 k2
  rw [if_neg k1, if_neg k1, if_neg k1] at g1
  rw [if_neg k2, if_neg k2, if_neg k2] at g2
  have c1 := con10_ok 24 a p1
  have c2 := con10_ok 24 b p2
  have l1 := con10_len 24 a
  have l2 := con10_len 24 b
  have hc := octcmp_ok (con10 24 a) (con10 24 b) (by omega) (by omega)
  rw [con_order q1 q2] at hc
  have key : ∀ n : Int, (n = if a < b then -1 else if b < a then 1 else 0) → Ct Try.prog 43 [B8 (con10 24 a), B8 (con10 24 b)] [] (lv (.int .i64 n)) [] [] → Ct Try.prog 7 [lv (.int .i64 a), lv (.int .i64 b)] [] (lv (.bool true)) [] [] := by
    intro n hn0 hc
    have s1 : n < 0 ↔ a < b := by subst hn0; (repeat' split) <;> omega
    have s2 : n = 0 ↔ a = b := by subst hn0; (repeat' split) <;> omega
    have s2' : (n == 0) = (a == b) := by rw [Bool.eq_iff_iff]; simp [s2]
    have con : ∀ s : Int, ∃ (L : List Int) (e : Int), Ct Try.prog 26 [timA 23 s] [] (.tup [B8 L, lv (.int .i64 e)]) [] [] ∧ L.length ≤ 15 ∧ (e = 0 → rightM 23 s = true ∧ L = con10 23 s) := by
      intro s
      by_cases u : rightM 23 s = true
      · exact ⟨_, _, con10_ok 23 s u, con10_len 23 s, fun _ => ⟨u, rfl⟩⟩
      · exact ⟨_, _, con10_err 23 s (by simpa using u), by simp, fun h => by cases h⟩
    obtain ⟨L1, e1, d1, m1, x1⟩ := con a
    obtain ⟨L2, e2, d2, m2, x2⟩ := con b
    have hd := octcmp_ok L1 L2 (by omega) (by omega)
    have hfin : e1 = 0 → e2 = 0 → (a < 946684800 ↔ b < 946684800) → cmpL L1 L2 = n := by
      intro h1 h2 hm
      obtain ⟨u1, rfl⟩ := x1 h1
      obtain ⟨u2, rfl⟩ := x2 h2
      rw [con_order23 u1 u2 hm, con_order q1 q2, hn0]
    generalize cmpL L1 L2 = C at *
    clear x1 x2 hn0
    refine Ct_intro Try.func7 rfl rfl rfl rfl rfl (fun E hn hb => ?_)
    repeat refine nx ?_
    refine W_cond rfl (by simp) (fun hc => ?_) (fun hc => ?_)
    · simp [s1, s2'] at hc
    repeat refine nx ?_
    exact rt1 []
  exact key _ rfl hc
end Go.Proofs.Ythalijmfhllgbaa

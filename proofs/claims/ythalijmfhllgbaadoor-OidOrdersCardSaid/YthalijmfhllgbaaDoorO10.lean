/-
  Chapter 04's law OidOrders, walked: it returns true. The conditions: rows that a machine can hold.
-/
import Derived.Test.YthalijmfhllgbaaDoorO9
namespace Go.Proofs.YthalijmfhllgbaaDoor
set_option linter.unusedSimpArgs false
set_option linter.unusedVariables false
open Go.Sx

set_option maxRecDepth 10000

theorem cmpL_neg : ∀ a b : List Int, cmpL b a = -cmpL a b
  | [], [] => rfl
  | [], _ :: _ => rfl
  | _ :: _, [] => rfl
  | x :: a, y :: b => by
    have := cmpL_neg a b
    simp only [cmpL]
    by_cases h1 : x < y
    · have h2 : ¬ y < x := by omega
      simp [h1, h2]
    · by_cases h2 : y < x
      · simp [h1, h2]
      · simp [h1, h2, this]
theorem cmpL_rng : ∀ a b : List Int, -1 ≤ cmpL a b ∧ cmpL a b ≤ 1
  | [], [] => by decide
  | [], _ :: _ => by simp only [cmpL]; omega
  | _ :: _, [] => by simp only [cmpL]; omega
  | x :: a, y :: b => by
    have := cmpL_rng a b
    simp only [cmpL]
    split
    · omega
    · split <;> omega
theorem under_nil (a : List Int) (ha : a.length ≤ 1000000) : Ct Tryd.prog 11 [I64 a, lv (.slice none 0 0)] [] (lv (.bool true)) [] [] := by
  have h := under_ok a [] ha (by simp)
  have e : underL a [] = true := by simp [underL, eqL]
  rw [e] at h
  exact Ct_upA h ⟨.inl rfl, .inr ⟨rfl, .inl ⟨_, rfl⟩⟩, trivial⟩
theorem under_self (a : List Int) (ha : a.length ≤ 1000000) : Ct Tryd.prog 11 [I64 a, I64 a] [] (lv (.bool true)) [] [] := by
  have h := under_ok a a ha ha
  have e : underL a a = true := by simp [underL, eqL]
  rwa [e] at h

set_option maxHeartbeats 4000000 in
theorem orders_ok (a0 b0 : List Int) (hl0 : a0.length ≤ 9223372036854775807) (hl1 : b0.length ≤ 9223372036854775807) : Ct Tryd.prog 3 [I64 a0, I64 b0] [] (lv (.bool true)) [] [] := by
  have hfa := few04_ok a0 hl0
  have hfb := few04_ok b0 hl1
  have ha : (a0.take 50).length ≤ 50 := by simp; omega
  have hb2 : (b0.take 50).length ≤ 50 := by simp; omega
  generalize a0.take 50 = a at *
  generalize b0.take 50 = b at *
  refine Ct_intro Tryd.func3 rfl rfl rfl rfl rfl (fun E hn hb => ?_)
  repeat (first | refine stp ?_ | refine N_block_pass rfl ?_ | refine sp1 ?_ | refine sg1 ?_ | refine WL_nil ?_)
  refine s_call0 hfa rfl rfl rfl (by rw [hn]; rfl) rfl rfl (by first | trivial | (simp; done) | (simp; omega) | (simp at *; done) | (simp at *; omega)) rfl rfl rfl ?_
  repeat (first | refine stp ?_ | refine N_block_pass rfl ?_ | refine sp1 ?_ | refine sg1 ?_ | refine WL_nil ?_)
  refine s_call0 hfb rfl rfl rfl (by rw [hn]; rfl) rfl rfl (by first | trivial | (simp; done) | (simp; omega) | (simp at *; done) | (simp at *; omega)) rfl rfl rfl ?_
  repeat (first | refine stp ?_ | refine N_block_pass rfl ?_ | refine sp1 ?_ | refine sg1 ?_ | refine WL_nil ?_)
  have e : decide ((b.length : Int) ≤ (a.length : Int)) = decide (b.length ≤ a.length) := by simp
  rw [e]
  refine W_weaken (St.le_of (l := [(0, I64 a), (1, I64 b), (5, lv (.bool (decide (b.length ≤ a.length)))), (6, lv (.int .i64 ((0 : Nat) : Int)))]) (h := []) (by refine ⟨?_, ?_⟩ <;> (repeat' (first | exact trivial | exact rfl | refine ⟨?_, ?_⟩)) <;> first | exact rfl | (simp; done) | skip)) ?_
  refine W_loop (ι := {s : Nat × Bool // s.1 ≤ b.length ∧ s.2 = decide (b.length ≤ a.length ∧ a.take s.1 = b.take s.1)}) (fun s => St.of [(0, I64 a), (1, I64 b), (5, lv (.bool s.1.2)), (6, lv (.int .i64 (s.1.1 : Int)))] []) (fun s => b.length - s.1.1) (fun s => ?_) ⟨(0, decide (b.length ≤ a.length)), by dsimp only; omega, by simp⟩
  obtain ⟨⟨i, u⟩, hi, hu⟩ := s
  dsimp only at hi hu ⊢
  repeat (first | refine stp ?_ | refine N_block_pass rfl ?_ | refine sp1 ?_ | refine sg1 ?_ | refine WL_nil ?_)
  refine W_cond rfl (by simp) (fun hc => ?_) (fun hc => ?_)
  · have hi2 : i < b.length ∧ u = true := by
      simpa [Bool.cond_eq_ite] using hc
    obtain ⟨hi2, rfl⟩ := hi2
    have hu2 : b.length ≤ a.length ∧ a.take i = b.take i := by simpa using hu.symm
    have hu3 : (a.getD i 0 == b.getD i 0) = decide (b.length ≤ a.length ∧ a.take (i + 1) = b.take (i + 1)) := by
      have e1 : a.take (i + 1) = a.take i ++ [a.getD i 0] := by
        rw [List.take_add_one, List.getElem?_eq_getElem (by omega), List.getD_eq_getElem?_getD, List.getElem?_eq_getElem (by omega)]; rfl
      have e2 : b.take (i + 1) = b.take i ++ [b.getD i 0] := by
        rw [List.take_add_one, List.getElem?_eq_getElem (by omega), List.getD_eq_getElem?_getD, List.getElem?_eq_getElem (by omega)]; rfl
      rw [e1, e2, hu2.2, Bool.eq_iff_iff]
      simp [hu2.1]
    have hia : i < a.length := by omega
    repeat (first | refine stp ?_ | refine N_block_pass rfl ?_ | refine sp1 ?_ | refine sg1 ?_ | refine WL_nil ?_)
    refine W_drawW 9 (by kernel_rfl) (by kernel_rfl) (by kernel_rfl) (by rw [hn]; rfl) rfl rfl ?_
    repeat (first | refine dp1 ?_ | refine dg1 ?_ | refine DrawW_nil ?_)
    repeat (first | refine stp ?_ | refine N_block_pass rfl ?_ | refine sp1 ?_ | refine sg1 ?_ | refine WL_nil ?_)
    (refine N_round ?i1 ?i2 ?i3; (case i1 => exact ⟨(i + 1, a.getD i 0 == b.getD i 0), by dsimp only; omega, hu3⟩); (case i2 => (dsimp only; omega)); (case i3 => refine St.le_of ⟨?_, ?_⟩ <;> (repeat' (first | exact trivial | exact rfl | refine ⟨?_, ?_⟩)) <;> first | exact rfl | (simp; done) | skip))
  · have hU : u = underL a b := by
      rw [hu]
      by_cases h1 : i = b.length
      · subst h1
        rw [List.take_length, underL, eqL]
        by_cases h2 : b.length ≤ a.length <;> simp [h2]
      · have h2 : u = false := by
          have : i < b.length := by omega
          simpa [this, Bool.cond_eq_ite] using hc
        rw [← hu, h2]
        symm
        rw [h2] at hu
        have hu := hu.symm
        rw [decide_eq_false_iff_not] at hu
        rw [underL, eqL, Bool.and_eq_false_iff]
        by_cases h3 : b.length ≤ a.length
        · right
          rw [decide_eq_false_iff_not]
          intro h4
          apply hu
          refine ⟨h3, ?_⟩
          have h5 := congrArg (List.take i) h4
          rwa [List.take_take, Nat.min_eq_left (by omega)] at h5
        · left; simpa using h3
    subst hU
    have hneg := cmpL_neg a b
    have hrng := cmpL_rng a b
    repeat (first | refine stp ?_ | refine N_block_pass rfl ?_ | refine sp1 ?_ | refine sg1 ?_ | refine WL_nil ?_)
    refine s_call0 (known04_ok) rfl rfl rfl (by rw [hn]; rfl) rfl rfl (by first | trivial | (simp; done) | (simp; omega) | (simp at *; done) | (simp at *; omega)) rfl rfl rfl ?_
    repeat (first | refine stp ?_ | refine N_block_pass rfl ?_ | refine sp1 ?_ | refine sg1 ?_ | refine WL_nil ?_)
    refine WL_q (opq_callG rfl rfl rfl rfl rfl (fun _ => (oCmp_ok a b (by omega) (by omega))) (fun hG => by first | exact hG | (first | trivial | (simp; done) | (simp; omega) | (simp at *; done) | (simp at *; omega))) rfl rfl) (by rw [hn]; rfl) ?_
    repeat (first | refine stp ?_ | refine N_block_pass rfl ?_ | refine sp1 ?_ | refine sg1 ?_ | refine WL_nil ?_)
    refine WL_q (opq_callG rfl rfl rfl rfl rfl (fun _ => (refCmp_ok a b (by omega) (by omega))) (fun hG => by first | exact hG | (first | trivial | (simp; done) | (simp; omega) | (simp at *; done) | (simp at *; omega))) rfl rfl) (by rw [hn]; rfl) ?_
    repeat (first | refine stp ?_ | refine N_block_pass rfl ?_ | refine sp1 ?_ | refine sg1 ?_ | refine WL_nil ?_)
    refine WL_q (opq_callG rfl rfl rfl rfl rfl (fun _ => (oCmp_ok b a (by omega) (by omega))) (fun hG => by first | exact hG | (first | trivial | (simp; done) | (simp; omega) | (simp at *; done) | (simp at *; omega))) rfl rfl) (by rw [hn]; rfl) ?_
    repeat (first | refine stp ?_ | refine N_block_pass rfl ?_ | refine sp1 ?_ | refine sg1 ?_ | refine WL_nil ?_)
    refine WL_q (opq_callG rfl rfl rfl rfl rfl (fun _ => (oCmp_ok a b (by omega) (by omega))) (fun hG => by first | exact hG | (first | trivial | (simp; done) | (simp; omega) | (simp at *; done) | (simp at *; omega))) rfl rfl) (by rw [hn]; rfl) ?_
    repeat (first | refine stp ?_ | refine N_block_pass rfl ?_ | refine sp1 ?_ | refine sg1 ?_ | refine WL_nil ?_)
    refine WL_q (opq_callG rfl rfl rfl rfl rfl (fun _ => (under_ok a b (by omega) (by omega))) (fun hG => by first | exact hG | (first | trivial | (simp; done) | (simp; omega) | (simp at *; done) | (simp at *; omega))) rfl rfl) (by rw [hn]; rfl) ?_
    repeat (first | refine stp ?_ | refine N_block_pass rfl ?_ | refine sp1 ?_ | refine sg1 ?_ | refine WL_nil ?_)
    refine WL_q (opq_callG rfl rfl rfl rfl rfl (fun _ => (under_nil a (by omega))) (fun hG => by first | exact hG | (first | trivial | (simp; done) | (simp; omega) | (simp at *; done) | (simp at *; omega))) rfl rfl) (by rw [hn]; rfl) ?_
    repeat (first | refine stp ?_ | refine N_block_pass rfl ?_ | refine sp1 ?_ | refine sg1 ?_ | refine WL_nil ?_)
    refine WL_q (opq_callG rfl rfl rfl rfl rfl (fun _ => (under_self a (by omega))) (fun hG => by first | exact hG | (first | trivial | (simp; done) | (simp; omega) | (simp at *; done) | (simp at *; omega))) rfl rfl) (by rw [hn]; rfl) ?_
    repeat (first | refine stp ?_ | refine N_block_pass rfl ?_ | refine sp1 ?_ | refine sg1 ?_ | refine WL_nil ?_)
    refine rt2 [] ?_ ?_
    · rw [hneg, beq_self_eq_true, beq_self_eq_true, beq_self_eq_true]
      rfl
    · trivial
end Go.Proofs.YthalijmfhllgbaaDoor

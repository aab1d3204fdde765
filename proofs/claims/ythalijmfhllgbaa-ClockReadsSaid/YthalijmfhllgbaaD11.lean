/-
  Clock: the time of contents, the document's way. The conditions: rows that a machine can hold.
-/
import Derived.Test.YthalijmfhllgbaaD10
namespace Go.Proofs.Ythalijmfhllgbaa
set_option linter.unusedSimpArgs false
set_option linter.unusedVariables false
open Go.Sx Dt

set_option maxRecDepth 10000

/-- The number of so many digits at a place, behind a number; -1: they are none. -/
def digA (l : List Int) : Nat → Nat → Int → Int
  | _, 0, k => k
  | p, n + 1, k => if p < l.length ∧ isDig (l.getD p 0) = true then digA l (p + 1) n (10 * k + l.getD p 0 - 48) else -1
theorem digA_rng (l : List Int) : ∀ (n p : Nat) (k : Int) (j : Nat), 0 ≤ k → k < 10 ^ j → -1 ≤ digA l p n k ∧ digA l p n k < 10 ^ (j + n)
  | 0, p, k, j, h0, h1 => ⟨by unfold digA; omega, h1⟩
  | n + 1, p, k, j, h0, h1 => by
    unfold digA
    split
    · rename_i h
      have hx := h.2
      simp only [isDig, Bool.and_eq_true, decide_eq_true_eq] at hx
      have h2 : (10 : Int) ^ (j + 1) = 10 * 10 ^ j := by rw [Int.pow_succ, Int.mul_comm]
      have := digA_rng l n (p + 1) (10 * k + l.getD p 0 - 48) (j + 1) (by omega) (by omega)
      rwa [show j + (n + 1) = j + 1 + n by omega]
    · have : (0 : Int) < 10 ^ (j + (n + 1)) := Int.pow_pos (by decide)
      omega
theorem digA2_rng (l : List Int) (p : Nat) : -1 ≤ digA l p 2 0 ∧ digA l p 2 0 < 100 := digA_rng l 2 p 0 0 (by decide) (by decide)
theorem digits10_ok (l : List Int) (p n : Nat) (hl : l.length ≤ 1000000) (hp : p ≤ 1000000) (hn4 : n ≤ 4) : Ct Try.prog 78 [B8 l, lv (.int .i64 (p : Int)), lv (.int .i64 (n : Int))] [] (lv (.int .i64 (digA l p n 0))) [] [] := by
  refine Ct_intro Try.func78 rfl rfl rfl rfl rfl (fun E hn hb => ?_)
  repeat (first | refine stp ?_ | refine N_block_pass rfl ?_ | refine sp1 ?_ | refine sg1 ?_ | refine WL_nil ?_)
  refine W_weaken (St.le_of (l := [(0, B8 l), (1, lv (.int .i64 (p : Int))), (2, lv (.int .i64 (n : Int))), (7, lv (.int .i64 0)), (8, lv (.int .i64 (p : Int)))]) (h := []) (by refine ⟨?_, ?_⟩ <;> (repeat' (first | exact trivial | exact rfl | refine ⟨?_, ?_⟩)) <;> first | exact rfl | (simp; done) | skip)) ?_
  refine W_loop (ι := {s : Nat × Int // p ≤ s.1 ∧ s.1 ≤ p + n ∧ digA l s.1 (p + n - s.1) s.2 = digA l p n 0 ∧ 0 ≤ s.2 ∧ s.2 < 10 ^ (s.1 - p)}) (fun s => St.of [(0, B8 l), (1, lv (.int .i64 (p : Int))), (2, lv (.int .i64 (n : Int))), (7, lv (.int .i64 s.1.2)), (8, lv (.int .i64 (s.1.1 : Int)))] []) (fun s => p + n - s.1.1) (fun s => ?_) ⟨(p, 0), by dsimp only; exact ⟨by omega, by omega, by rw [Nat.add_sub_cancel_left], by omega, by rw [Nat.sub_self]; decide⟩⟩
  obtain ⟨⟨i, k⟩, h1, h2, h3, h4, h5⟩ := s
  dsimp only at h1 h2 h3 h4 h5 ⊢
  generalize digA l p n 0 = R at *
  have h6 : k < 10000 := by
    have : (10 : Int) ^ (i - p) ≤ 10 ^ 4 := by
      have h7 : i - p = 0 ∨ i - p = 1 ∨ i - p = 2 ∨ i - p = 3 ∨ i - p = 4 := by omega
      rcases h7 with h | h | h | h | h <;> rw [h] <;> decide
    omega
  repeat (first | refine stp ?_ | refine N_block_pass rfl ?_ | refine sp1 ?_ | refine sg1 ?_ | refine WL_nil ?_)
  refine W_cond rfl (by simp) (fun hc => ?_) (fun hc => ?_)
  · have hi2 : i < p + n := by simp at hc; omega
    have e1 : p + n - i = (p + n - (i + 1)) + 1 := by omega
    rw [e1] at h3
    unfold digA at h3
    repeat (first | refine stp ?_ | refine N_block_pass rfl ?_ | refine sp1 ?_ | refine sg1 ?_ | refine WL_nil ?_)
    refine W_cond rfl (by simp) (fun hd => ?_) (fun hd => ?_)
    · have hR : R = -1 := by
        rw [← h3]
        apply if_neg
        intro ⟨h7, h8⟩
        simp only [isDig, Bool.and_eq_true, decide_eq_true_eq] at h8
        rw [List.getD_eq_getElem?_getD] at h8
        simp [Bool.cond_eq_ite] at hd
        omega
      subst hR
      repeat (first | refine stp ?_ | refine N_block_pass rfl ?_ | refine sp1 ?_ | refine sg1 ?_ | refine WL_nil ?_)
      exact rt1 []
    · have hlt : i < l.length := by
        simp [Bool.cond_eq_ite] at hd
        omega
      have hdg : 48 ≤ l.getD i 0 ∧ l.getD i 0 ≤ 57 := by
        rw [List.getD_eq_getElem?_getD]
        simp [Bool.cond_eq_ite] at hd
        omega
      rw [if_pos ⟨hlt, by simp only [isDig, Bool.and_eq_true, decide_eq_true_eq]; exact hdg⟩] at h3
      clear hd
      generalize hx : l.getD i 0 = x at *
      have hpw : (10 : Int) ^ (i + 1 - p) = 10 * 10 ^ (i - p) := by
        rw [show i + 1 - p = (i - p) + 1 by omega, Int.pow_succ, Int.mul_comm]
      repeat (first | refine stp ?_ | refine N_block_pass rfl ?_ | refine sp1 ?_ | refine sg1 ?_ | refine WL_nil ?_)
      rw [show l.getD (Int.toNat (i : Int)) 0 = x from hx]
      repeat (first | refine stp ?_ | refine N_block_pass rfl ?_ | refine sp1 ?_ | refine sg1 ?_ | refine WL_nil ?_)
      refine N_round ⟨(i + 1, 10 * k + x - 48), by dsimp only; omega, by dsimp only; omega, h3, by dsimp only; omega, by dsimp only; omega⟩ (by dsimp only; omega) (St.le_of ⟨⟨rfl, rfl, rfl, rfl, rfl⟩, trivial⟩)
  · have hi2 : i = p + n := by simp at hc; omega
    rw [show p + n - i = 0 by omega] at h3
    unfold digA at h3
    subst h3
    repeat (first | refine stp ?_ | refine N_block_pass rfl ?_ | refine sp1 ?_ | refine sg1 ?_ | refine WL_nil ?_)
    exact rt1 []
def yfix (k v : Int) : Int := if k = 23 then (if 0 ≤ v then (if v + 1900 < 1950 then v + 2000 else v + 1900) else v) else v
def rredP (n : Nat) (k : Int) (l : List Int) : Red :=
  ⟨yfix k (digA l 0 n 0), digA l n 2 0, digA l (n + 2) 2 0, digA l (n + 4) 2 0, digA l (n + 6) 2 0, digA l (n + 8) 2 0, !(decide (l.length = n + 11) && l.getD (n + 10) 0 == 90)⟩
def rparse10 (k : Int) (l : List Int) : Int × Int × Int :=
  if k = 23 then (bif redOk (rredP 2 k l) then (k, secC (rredP 2 k l).y (rredP 2 k l).m (rredP 2 k l).d (rredP 2 k l).h (rredP 2 k l).i (rredP 2 k l).s, 0) else (0, 0, 6))
  else if k = 24 then (bif redOk (rredP 4 k l) then (k, secC (rredP 4 k l).y (rredP 4 k l).m (rredP 4 k l).d (rredP 4 k l).h (rredP 4 k l).i (rredP 4 k l).s, 0) else (0, 0, 6)) else (0, 0, 1)
set_option maxHeartbeats 2000000 in
theorem rparse24 (l : List Int) (hl : l.length ≤ 1000000) : Ct Try.prog 23 [lv (.int .i64 24), B8 l] [] (parR (bif redOk (rredP 4 24 l) then (24, secC (rredP 4 24 l).y (rredP 4 24 l).m (rredP 4 24 l).d (rredP 4 24 l).h (rredP 4 24 l).i (rredP 4 24 l).s, 0) else (0, 0, 6))) [] [] := by
  unfold redOk rredP
  dsimp only
  have ey : yfix 24 (digA l 0 4 0) = digA l 0 4 0 := rfl
  rw [ey]
  have cy : Ct Try.prog 78 [B8 l, lv (.int .i64 0), lv (.int .i64 4)] [] (lv (.int .i64 (digA l 0 4 0))) [] [] := digits10_ok l 0 4 hl (by omega) (by omega)
  have cm : Ct Try.prog 78 [B8 l, lv (.int .i64 4), lv (.int .i64 2)] [] (lv (.int .i64 (digA l 4 2 0))) [] [] := digits10_ok l 4 2 hl (by omega) (by omega)
  have cd : Ct Try.prog 78 [B8 l, lv (.int .i64 (4 + 2)), lv (.int .i64 2)] [] (lv (.int .i64 (digA l (4 + 2) 2 0))) [] [] := digits10_ok l 6 2 hl (by omega) (by omega)
  have ch : Ct Try.prog 78 [B8 l, lv (.int .i64 (4 + 4)), lv (.int .i64 2)] [] (lv (.int .i64 (digA l (4 + 4) 2 0))) [] [] := digits10_ok l 8 2 hl (by omega) (by omega)
  have ci : Ct Try.prog 78 [B8 l, lv (.int .i64 (4 + 6)), lv (.int .i64 2)] [] (lv (.int .i64 (digA l (4 + 6) 2 0))) [] [] := digits10_ok l 10 2 hl (by omega) (by omega)
  have cs : Ct Try.prog 78 [B8 l, lv (.int .i64 (4 + 8)), lv (.int .i64 2)] [] (lv (.int .i64 (digA l (4 + 8) 2 0))) [] [] := digits10_ok l 12 2 hl (by omega) (by omega)
  generalize digA l 0 4 0 = vy at *
  generalize digA l 4 2 0 = vm at *
  generalize digA l (4 + 2) 2 0 = vd at *
  generalize digA l (4 + 4) 2 0 = vh at *
  generalize digA l (4 + 6) 2 0 = vi at *
  generalize digA l (4 + 8) 2 0 = vs at *
  have hrc := rrightC_ok vy vm vd vh vi vs
  have hsec := rsecond_ok vy vm vd vh vi vs
  generalize secC vy vm vd vh vi vs = SC at *
  generalize rightC vy vm vd vh vi vs = RC at *
  refine Ct_intro Try.func23 rfl rfl rfl rfl rfl (fun E hn hb => ?_)
  repeat (first | refine stp ?_ | refine N_block_pass rfl ?_ | refine sp1 ?_ | refine sg1 ?_ | refine WL_nil ?_)
  refine s_allocN rfl rfl rfl (by rw [hn]; rfl) rfl zok48 ?_
  repeat (first | refine stp ?_ | refine N_block_pass rfl ?_ | refine sp1 ?_ | refine sg1 ?_ | refine WL_nil ?_ | refine W_cond rfl (by simp) (fun _ => ?_) (fun h => absurd h (by first | decide | (simp; done) | (simp; omega) | (simp at *; omega))) | refine W_cond rfl (by simp) (fun h => absurd h (by first | decide | (simp; done) | (simp; omega) | (simp at *; omega))) (fun _ => ?_))
  refine s_allocN rfl rfl rfl (by rw [hn]; rfl) rfl zok126 ?_
  repeat (first | refine stp ?_ | refine N_block_pass rfl ?_ | refine sp1 ?_ | refine sg1 ?_ | refine WL_nil ?_)
  refine s_call0 cy rfl rfl rfl (by rw [hn]; rfl) rfl rfl (by first | trivial | (simp; done) | (simp; omega) | (simp at *; done) | (simp at *; omega)) rfl rfl rfl ?_
  repeat (first | refine stp ?_ | refine N_block_pass rfl ?_ | refine sp1 ?_ | refine sg1 ?_ | refine WL_nil ?_)
  refine s_storeN rfl rfl rfl rfl rfl (by first | trivial | (simp; done) | (simp; omega) | (simp at *; done) | (simp at *; omega)) rfl rfl rfl (by rw [cellsOf3]; rfl) (by rw [info3]; rfl) rfl rfl ?_
  repeat (first | refine stp ?_ | refine N_block_pass rfl ?_ | refine sp1 ?_ | refine sg1 ?_ | refine WL_nil ?_ | refine W_cond rfl (by simp) (fun _ => ?_) (fun h => absurd h (by first | decide | (simp; done) | (simp; omega) | (simp at *; omega))) | refine W_cond rfl (by simp) (fun h => absurd h (by first | decide | (simp; done) | (simp; omega) | (simp at *; omega))) (fun _ => ?_))
  refine s_call0 cm rfl rfl rfl (by rw [hn]; rfl) rfl rfl (by first | trivial | (simp; done) | (simp; omega) | (simp at *; done) | (simp at *; omega)) rfl rfl rfl ?_
  repeat (first | refine stp ?_ | refine N_block_pass rfl ?_ | refine sp1 ?_ | refine sg1 ?_ | refine WL_nil ?_)
  refine s_storeN rfl rfl rfl rfl rfl (by first | trivial | (simp; done) | (simp; omega) | (simp at *; done) | (simp at *; omega)) rfl rfl rfl (by rw [cellsOf3]; rfl) (by rw [info3]; rfl) rfl rfl ?_
  repeat (first | refine stp ?_ | refine N_block_pass rfl ?_ | refine sp1 ?_ | refine sg1 ?_ | refine WL_nil ?_)
  refine s_call0 cd rfl rfl rfl (by rw [hn]; rfl) rfl rfl (by first | trivial | (simp; done) | (simp; omega) | (simp at *; done) | (simp at *; omega)) rfl rfl rfl ?_
  repeat (first | refine stp ?_ | refine N_block_pass rfl ?_ | refine sp1 ?_ | refine sg1 ?_ | refine WL_nil ?_)
  refine s_storeN rfl rfl rfl rfl rfl (by first | trivial | (simp; done) | (simp; omega) | (simp at *; done) | (simp at *; omega)) rfl rfl rfl (by rw [cellsOf3]; rfl) (by rw [info3]; rfl) rfl rfl ?_
  repeat (first | refine stp ?_ | refine N_block_pass rfl ?_ | refine sp1 ?_ | refine sg1 ?_ | refine WL_nil ?_)
  refine s_call0 ch rfl rfl rfl (by rw [hn]; rfl) rfl rfl (by first | trivial | (simp; done) | (simp; omega) | (simp at *; done) | (simp at *; omega)) rfl rfl rfl ?_
  repeat (first | refine stp ?_ | refine N_block_pass rfl ?_ | refine sp1 ?_ | refine sg1 ?_ | refine WL_nil ?_)
  refine s_storeN rfl rfl rfl rfl rfl (by first | trivial | (simp; done) | (simp; omega) | (simp at *; done) | (simp at *; omega)) rfl rfl rfl (by rw [cellsOf3]; rfl) (by rw [info3]; rfl) rfl rfl ?_
  repeat (first | refine stp ?_ | refine N_block_pass rfl ?_ | refine sp1 ?_ | refine sg1 ?_ | refine WL_nil ?_)
  refine s_call0 ci rfl rfl rfl (by rw [hn]; rfl) rfl rfl (by first | trivial | (simp; done) | (simp; omega) | (simp at *; done) | (simp at *; omega)) rfl rfl rfl ?_
  repeat (first | refine stp ?_ | refine N_block_pass rfl ?_ | refine sp1 ?_ | refine sg1 ?_ | refine WL_nil ?_)
  refine s_storeN rfl rfl rfl rfl rfl (by first | trivial | (simp; done) | (simp; omega) | (simp at *; done) | (simp at *; omega)) rfl rfl rfl (by rw [cellsOf3]; rfl) (by rw [info3]; rfl) rfl rfl ?_
  repeat (first | refine stp ?_ | refine N_block_pass rfl ?_ | refine sp1 ?_ | refine sg1 ?_ | refine WL_nil ?_)
  refine s_call0 cs rfl rfl rfl (by rw [hn]; rfl) rfl rfl (by first | trivial | (simp; done) | (simp; omega) | (simp at *; done) | (simp at *; omega)) rfl rfl rfl ?_
  repeat (first | refine stp ?_ | refine N_block_pass rfl ?_ | refine sp1 ?_ | refine sg1 ?_ | refine WL_nil ?_)
  refine s_storeN rfl rfl rfl rfl rfl (by first | trivial | (simp; done) | (simp; omega) | (simp at *; done) | (simp at *; omega)) rfl rfl rfl (by rw [cellsOf3]; rfl) (by rw [info3]; rfl) rfl rfl ?_
  generalize hx : l.getD (4 + 10) 0 = x at *
  refine W_weaken (St.le_of (l := [(0, lv (.int .i64 24)), (1, B8 l), (4, .c (.ptr 68 0)), (6, lv (.int .i64 4)), (7, .c (.ptr 71 0))]) (h := [(68, .cells [i64c 0, i64c 0]), (71, .cells [i64c vy, i64c vm, i64c vd, i64c vh, i64c vi, i64c vs])]) (by refine ⟨?_, ?_⟩ <;> (repeat' (first | exact trivial | exact rfl | refine ⟨?_, ?_⟩)) <;> first | exact rfl | (simp; done) | skip)) ?_
  repeat (first | refine stp ?_ | refine N_block_pass rfl ?_ | refine sp1 ?_ | refine sg1 ?_ | refine WL_nil ?_)
  rw [show l.getD (Int.toNat (4 + 10)) 0 = x from hx, cellsOf126]
  refine WL_q (opq_callG rfl rfl rfl rfl rfl (fun _ => hrc) (fun hG => by first | exact hG | (first | trivial | (simp; done) | (simp; omega) | (simp at *; done) | (simp at *; omega))) rfl rfl) (by rw [hn]; rfl) ?_
  repeat (first | refine stp ?_ | refine N_block_pass rfl ?_ | refine sp1 ?_ | refine sg1 ?_ | refine WL_nil ?_)
  refine W_cond rfl (by simp) (fun hc => ?_) (fun hc => ?_)
  · have hz : (!!(decide (l.length = 4 + 11) && x == 90) && RC) = false := by
      cases RC
      · simp
      · simp [Bool.cond_eq_ite] at hc ⊢
        omega
    rw [hz]
    repeat (first | refine stp ?_ | refine N_block_pass rfl ?_ | refine sp1 ?_ | refine sg1 ?_ | refine WL_nil ?_)
    refine s_storeN rfl rfl rfl rfl rfl (by first | trivial | (simp; done) | (simp; omega) | (simp at *; done) | (simp at *; omega)) rfl rfl rfl (by rw [cellsOf48]; rfl) (by rw [info48]; rfl) rfl rfl ?_
    repeat (first | refine stp ?_ | refine N_block_pass rfl ?_ | refine sp1 ?_ | refine sg1 ?_ | refine WL_nil ?_)
    exact rt1 []
  · have hz : l.length = 15 ∧ x = 90 ∧ RC = true := by
      cases RC
      · simp [Bool.cond_eq_ite] at hc
      · simp [Bool.cond_eq_ite] at hc ⊢
        omega
    obtain ⟨hz1, rfl, rfl⟩ := hz
    have hz : (!!(decide (l.length = 4 + 11) && (90 : Int) == 90) && true) = true := by simp [hz1]
    rw [hz]
    have hs := hsec rfl
    repeat (first | refine stp ?_ | refine N_block_pass rfl ?_ | refine sp1 ?_ | refine sg1 ?_ | refine WL_nil ?_)
    try rw [cellsOf126]
    refine s_call0 hs rfl rfl rfl (by rw [hn]; rfl) rfl rfl (by first | trivial | (simp; done) | (simp; omega) | (simp at *; done) | (simp at *; omega)) rfl rfl rfl ?_
    repeat (first | refine stp ?_ | refine N_block_pass rfl ?_ | refine sp1 ?_ | refine sg1 ?_ | refine WL_nil ?_)
    refine s_storeN rfl rfl rfl rfl rfl (by first | trivial | (simp; done) | (simp; omega) | (simp at *; done) | (simp at *; omega)) rfl rfl rfl (by rw [cellsOf48]; rfl) (by rw [info48]; rfl) rfl rfl ?_
    repeat (first | refine stp ?_ | refine N_block_pass rfl ?_ | refine sp1 ?_ | refine sg1 ?_ | refine WL_nil ?_)
    exact rt1 []
set_option maxHeartbeats 2000000 in
theorem rparse23 (l : List Int) (hl : l.length ≤ 1000000) : Ct Try.prog 23 [lv (.int .i64 23), B8 l] [] (parR (bif redOk (rredP 2 23 l) then (23, secC (rredP 2 23 l).y (rredP 2 23 l).m (rredP 2 23 l).d (rredP 2 23 l).h (rredP 2 23 l).i (rredP 2 23 l).s, 0) else (0, 0, 6))) [] [] := by
  unfold redOk rredP
  dsimp only
  have cy : Ct Try.prog 78 [B8 l, lv (.int .i64 0), lv (.int .i64 2)] [] (lv (.int .i64 (digA l 0 2 0))) [] [] := digits10_ok l 0 2 hl (by omega) (by omega)
  have cm : Ct Try.prog 78 [B8 l, lv (.int .i64 2), lv (.int .i64 2)] [] (lv (.int .i64 (digA l 2 2 0))) [] [] := digits10_ok l 2 2 hl (by omega) (by omega)
  have cd : Ct Try.prog 78 [B8 l, lv (.int .i64 (2 + 2)), lv (.int .i64 2)] [] (lv (.int .i64 (digA l (2 + 2) 2 0))) [] [] := digits10_ok l 4 2 hl (by omega) (by omega)
  have ch : Ct Try.prog 78 [B8 l, lv (.int .i64 (2 + 4)), lv (.int .i64 2)] [] (lv (.int .i64 (digA l (2 + 4) 2 0))) [] [] := digits10_ok l 6 2 hl (by omega) (by omega)
  have ci : Ct Try.prog 78 [B8 l, lv (.int .i64 (2 + 6)), lv (.int .i64 2)] [] (lv (.int .i64 (digA l (2 + 6) 2 0))) [] [] := digits10_ok l 8 2 hl (by omega) (by omega)
  have cs : Ct Try.prog 78 [B8 l, lv (.int .i64 (2 + 8)), lv (.int .i64 2)] [] (lv (.int .i64 (digA l (2 + 8) 2 0))) [] [] := digits10_ok l 10 2 hl (by omega) (by omega)
  have hvr := digA2_rng l 0
  generalize digA l 0 2 0 = v0 at *
  generalize digA l 2 2 0 = vm at *
  generalize digA l (2 + 2) 2 0 = vd at *
  generalize digA l (2 + 4) 2 0 = vh at *
  generalize digA l (2 + 6) 2 0 = vi at *
  generalize digA l (2 + 8) 2 0 = vs at *
  have ev : yfix 23 v0 = if 0 ≤ v0 then (if v0 + 1900 < 1950 then v0 + 2000 else v0 + 1900) else v0 := rfl
  generalize yfix 23 v0 = vy at *
  have hrc := rrightC_ok vy vm vd vh vi vs
  have hsec := rsecond_ok vy vm vd vh vi vs
  generalize secC vy vm vd vh vi vs = SC at *
  generalize rightC vy vm vd vh vi vs = RC at *
  refine Ct_intro Try.func23 rfl rfl rfl rfl rfl (fun E hn hb => ?_)
  repeat (first | refine stp ?_ | refine N_block_pass rfl ?_ | refine sp1 ?_ | refine sg1 ?_ | refine WL_nil ?_)
  refine s_allocN rfl rfl rfl (by rw [hn]; rfl) rfl zok48 ?_
  repeat (first | refine stp ?_ | refine N_block_pass rfl ?_ | refine sp1 ?_ | refine sg1 ?_ | refine WL_nil ?_ | refine W_cond rfl (by simp) (fun _ => ?_) (fun h => absurd h (by first | decide | (simp; done) | (simp; omega) | (simp at *; omega))) | refine W_cond rfl (by simp) (fun h => absurd h (by first | decide | (simp; done) | (simp; omega) | (simp at *; omega))) (fun _ => ?_))
  refine s_allocN rfl rfl rfl (by rw [hn]; rfl) rfl zok126 ?_
  repeat (first | refine stp ?_ | refine N_block_pass rfl ?_ | refine sp1 ?_ | refine sg1 ?_ | refine WL_nil ?_)
  refine s_call0 cy rfl rfl rfl (by rw [hn]; rfl) rfl rfl (by first | trivial | (simp; done) | (simp; omega) | (simp at *; done) | (simp at *; omega)) rfl rfl rfl ?_
  repeat (first | refine stp ?_ | refine N_block_pass rfl ?_ | refine sp1 ?_ | refine sg1 ?_ | refine WL_nil ?_)
  refine s_storeN rfl rfl rfl rfl rfl (by first | trivial | (simp; done) | (simp; omega) | (simp at *; done) | (simp at *; omega)) rfl rfl rfl (by rw [cellsOf3]; rfl) (by rw [info3]; rfl) rfl rfl ?_
  repeat (first | refine stp ?_ | refine N_block_pass rfl ?_ | refine sp1 ?_ | refine sg1 ?_ | refine WL_nil ?_)
  refine W_join (St.of [(0, lv (.int .i64 23)), (1, B8 l), (4, .c (.ptr 68 0)), (6, lv (.int .i64 2)), (7, .c (.ptr 71 0))] [(68, .cells [i64c 0, i64c 0]), (71, .cells [i64c vy, i64c 0, i64c 0, i64c 0, i64c 0, i64c 0])]) ?_ ?_
  · refine W_cond rfl (by simp) (fun hc => ?_) (fun hc => ?_)
    · have h0 : 0 ≤ v0 := by simpa [Bool.cond_eq_ite] using hc
      rw [if_pos h0] at ev
      repeat (first | refine stp ?_ | refine N_block_pass rfl ?_ | refine sp1 ?_ | refine sg1 ?_ | refine WL_nil ?_)
      refine s_storeN rfl rfl rfl rfl rfl (by first | trivial | (simp; done) | (simp; omega) | (simp at *; done) | (simp at *; omega)) rfl rfl rfl (by rw [cellsOf3]; rfl) (by rw [info3]; rfl) rfl rfl ?_
      repeat (first | refine stp ?_ | refine N_block_pass rfl ?_ | refine sp1 ?_ | refine sg1 ?_ | refine WL_nil ?_)
      refine W_cond rfl (by simp) (fun hc => ?_) (fun hc => ?_)
      · have h1 : v0 + 1900 < 1950 := by simpa using hc
        rw [if_pos h1] at ev
        have ev : vy = v0 + 1900 + 100 := by omega
        subst ev
        repeat (first | refine stp ?_ | refine N_block_pass rfl ?_ | refine sp1 ?_ | refine sg1 ?_ | refine WL_nil ?_)
        refine s_storeN rfl rfl rfl rfl rfl (by first | trivial | (simp; done) | (simp; omega) | (simp at *; done) | (simp at *; omega)) rfl rfl rfl (by rw [cellsOf3]; rfl) (by rw [info3]; rfl) rfl rfl ?_
        repeat (first | refine stp ?_ | refine N_block_pass rfl ?_ | refine sp1 ?_ | refine sg1 ?_ | refine WL_nil ?_)
        (refine N_join ?_; refine St.le_of ⟨?_, ?_⟩ <;> (repeat' (first | exact trivial | exact rfl | refine ⟨?_, ?_⟩)) <;> first | exact rfl | (simp; done) | skip)
      · have h1 : ¬ v0 + 1900 < 1950 := by simpa using hc
        rw [if_neg h1] at ev
        subst ev
        repeat (first | refine stp ?_ | refine N_block_pass rfl ?_ | refine sp1 ?_ | refine sg1 ?_ | refine WL_nil ?_)
        (refine N_join ?_; refine St.le_of ⟨?_, ?_⟩ <;> (repeat' (first | exact trivial | exact rfl | refine ⟨?_, ?_⟩)) <;> first | exact rfl | (simp; done) | skip)
    · have h0 : ¬ 0 ≤ v0 := by simpa [Bool.cond_eq_ite] using hc
      rw [if_neg h0] at ev
      subst ev
      repeat (first | refine stp ?_ | refine N_block_pass rfl ?_ | refine sp1 ?_ | refine sg1 ?_ | refine WL_nil ?_)
      (refine N_join ?_; refine St.le_of ⟨?_, ?_⟩ <;> (repeat' (first | exact trivial | exact rfl | refine ⟨?_, ?_⟩)) <;> first | exact rfl | (simp; done) | skip)
  repeat (first | refine stp ?_ | refine N_block_pass rfl ?_ | refine sp1 ?_ | refine sg1 ?_ | refine WL_nil ?_)
  refine s_call0 cm rfl rfl rfl (by rw [hn]; rfl) rfl rfl (by first | trivial | (simp; done) | (simp; omega) | (simp at *; done) | (simp at *; omega)) rfl rfl rfl ?_
  repeat (first | refine stp ?_ | refine N_block_pass rfl ?_ | refine sp1 ?_ | refine sg1 ?_ | refine WL_nil ?_)
  refine s_storeN rfl rfl rfl rfl rfl (by first | trivial | (simp; done) | (simp; omega) | (simp at *; done) | (simp at *; omega)) rfl rfl rfl (by rw [cellsOf3]; rfl) (by rw [info3]; rfl) rfl rfl ?_
  repeat (first | refine stp ?_ | refine N_block_pass rfl ?_ | refine sp1 ?_ | refine sg1 ?_ | refine WL_nil ?_)
  refine s_call0 cd rfl rfl rfl (by rw [hn]; rfl) rfl rfl (by first | trivial | (simp; done) | (simp; omega) | (simp at *; done) | (simp at *; omega)) rfl rfl rfl ?_
  repeat (first | refine stp ?_ | refine N_block_pass rfl ?_ | refine sp1 ?_ | refine sg1 ?_ | refine WL_nil ?_)
  refine s_storeN rfl rfl rfl rfl rfl (by first | trivial | (simp; done) | (simp; omega) | (simp at *; done) | (simp at *; omega)) rfl rfl rfl (by rw [cellsOf3]; rfl) (by rw [info3]; rfl) rfl rfl ?_
  repeat (first | refine stp ?_ | refine N_block_pass rfl ?_ | refine sp1 ?_ | refine sg1 ?_ | refine WL_nil ?_)
  refine s_call0 ch rfl rfl rfl (by rw [hn]; rfl) rfl rfl (by first | trivial | (simp; done) | (simp; omega) | (simp at *; done) | (simp at *; omega)) rfl rfl rfl ?_
  repeat (first | refine stp ?_ | refine N_block_pass rfl ?_ | refine sp1 ?_ | refine sg1 ?_ | refine WL_nil ?_)
  refine s_storeN rfl rfl rfl rfl rfl (by first | trivial | (simp; done) | (simp; omega) | (simp at *; done) | (simp at *; omega)) rfl rfl rfl (by rw [cellsOf3]; rfl) (by rw [info3]; rfl) rfl rfl ?_
  repeat (first | refine stp ?_ | refine N_block_pass rfl ?_ | refine sp1 ?_ | refine sg1 ?_ | refine WL_nil ?_)
  refine s_call0 ci rfl rfl rfl (by rw [hn]; rfl) rfl rfl (by first | trivial | (simp; done) | (simp; omega) | (simp at *; done) | (simp at *; omega)) rfl rfl rfl ?_
  repeat (first | refine stp ?_ | refine N_block_pass rfl ?_ | refine sp1 ?_ | refine sg1 ?_ | refine WL_nil ?_)
  refine s_storeN rfl rfl rfl rfl rfl (by first | trivial | (simp; done) | (simp; omega) | (simp at *; done) | (simp at *; omega)) rfl rfl rfl (by rw [cellsOf3]; rfl) (by rw [info3]; rfl) rfl rfl ?_
  repeat (first | refine stp ?_ | refine N_block_pass rfl ?_ | refine sp1 ?_ | refine sg1 ?_ | refine WL_nil ?_)
  refine s_call0 cs rfl rfl rfl (by rw [hn]; rfl) rfl rfl (by first | trivial | (simp; done) | (simp; omega) | (simp at *; done) | (simp at *; omega)) rfl rfl rfl ?_
  repeat (first | refine stp ?_ | refine N_block_pass rfl ?_ | refine sp1 ?_ | refine sg1 ?_ | refine WL_nil ?_)
  refine s_storeN rfl rfl rfl rfl rfl (by first | trivial | (simp; done) | (simp; omega) | (simp at *; done) | (simp at *; omega)) rfl rfl rfl (by rw [cellsOf3]; rfl) (by rw [info3]; rfl) rfl rfl ?_
  generalize hx : l.getD (2 + 10) 0 = x at *
  refine W_weaken (St.le_of (l := [(0, lv (.int .i64 23)), (1, B8 l), (4, .c (.ptr 68 0)), (6, lv (.int .i64 2)), (7, .c (.ptr 71 0))]) (h := [(68, .cells [i64c 0, i64c 0]), (71, .cells [i64c vy, i64c vm, i64c vd, i64c vh, i64c vi, i64c vs])]) (by refine ⟨?_, ?_⟩ <;> (repeat' (first | exact trivial | exact rfl | refine ⟨?_, ?_⟩)) <;> first | exact rfl | (simp; done) | skip)) ?_
  repeat (first | refine stp ?_ | refine N_block_pass rfl ?_ | refine sp1 ?_ | refine sg1 ?_ | refine WL_nil ?_)
  rw [show l.getD (Int.toNat (2 + 10)) 0 = x from hx, cellsOf126]
  refine WL_q (opq_callG rfl rfl rfl rfl rfl (fun _ => hrc) (fun hG => by first | exact hG | (first | trivial | (simp; done) | (simp; omega) | (simp at *; done) | (simp at *; omega))) rfl rfl) (by rw [hn]; rfl) ?_
  repeat (first | refine stp ?_ | refine N_block_pass rfl ?_ | refine sp1 ?_ | refine sg1 ?_ | refine WL_nil ?_)
  refine W_cond rfl (by simp) (fun hc => ?_) (fun hc => ?_)
  · have hz : (!!(decide (l.length = 2 + 11) && x == 90) && RC) = false := by
      cases RC
      · simp
      · simp [Bool.cond_eq_ite] at hc ⊢
        omega
    rw [hz]
    repeat (first | refine stp ?_ | refine N_block_pass rfl ?_ | refine sp1 ?_ | refine sg1 ?_ | refine WL_nil ?_)
    refine s_storeN rfl rfl rfl rfl rfl (by first | trivial | (simp; done) | (simp; omega) | (simp at *; done) | (simp at *; omega)) rfl rfl rfl (by rw [cellsOf48]; rfl) (by rw [info48]; rfl) rfl rfl ?_
    repeat (first | refine stp ?_ | refine N_block_pass rfl ?_ | refine sp1 ?_ | refine sg1 ?_ | refine WL_nil ?_)
    exact rt1 []
  · have hz : l.length = 13 ∧ x = 90 ∧ RC = true := by
      cases RC
      · simp [Bool.cond_eq_ite] at hc
      · simp [Bool.cond_eq_ite] at hc ⊢
        omega
    obtain ⟨hz1, rfl, rfl⟩ := hz
    have hz : (!!(decide (l.length = 2 + 11) && (90 : Int) == 90) && true) = true := by simp [hz1]
    rw [hz]
    have hs := hsec rfl
    repeat (first | refine stp ?_ | refine N_block_pass rfl ?_ | refine sp1 ?_ | refine sg1 ?_ | refine WL_nil ?_)
    try rw [cellsOf126]
    refine s_call0 hs rfl rfl rfl (by rw [hn]; rfl) rfl rfl (by first | trivial | (simp; done) | (simp; omega) | (simp at *; done) | (simp at *; omega)) rfl rfl rfl ?_
    repeat (first | refine stp ?_ | refine N_block_pass rfl ?_ | refine sp1 ?_ | refine sg1 ?_ | refine WL_nil ?_)
    refine s_storeN rfl rfl rfl rfl rfl (by first | trivial | (simp; done) | (simp; omega) | (simp at *; done) | (simp at *; omega)) rfl rfl rfl (by rw [cellsOf48]; rfl) (by rw [info48]; rfl) rfl rfl ?_
    repeat (first | refine stp ?_ | refine N_block_pass rfl ?_ | refine sp1 ?_ | refine sg1 ?_ | refine WL_nil ?_)
    exact rt1 []
theorem rparse10_ok (k : Int) (l : List Int) (hl : l.length ≤ 1000000) : Ct Try.prog 23 [lv (.int .i64 k), B8 l] [] (parR (rparse10 k l)) [] [] := by
  unfold rparse10
  by_cases h : k = 23
  · subst h
    exact rparse23 l hl
  · rw [if_neg h]
    by_cases h2 : k = 24
    · subst h2
      exact rparse24 l hl
    · rw [if_neg h2]
      refine Ct_intro Try.func23 rfl rfl rfl rfl rfl (fun E hn hb => ?_)
      repeat (first | refine stp ?_ | refine N_block_pass rfl ?_ | refine sp1 ?_ | refine sg1 ?_ | refine WL_nil ?_)
      refine s_allocN rfl rfl rfl (by rw [hn]; rfl) rfl zok48 ?_
      repeat (first | refine stp ?_ | refine N_block_pass rfl ?_ | refine sp1 ?_ | refine sg1 ?_ | refine WL_nil ?_ | refine W_cond rfl (by simp) (fun _ => ?_) (fun h => absurd h (by first | decide | (simp; done) | (simp; omega) | (simp at *; omega))) | refine W_cond rfl (by simp) (fun h => absurd h (by first | decide | (simp; done) | (simp; omega) | (simp at *; omega))) (fun _ => ?_))
      refine s_storeN rfl rfl rfl rfl rfl (by first | trivial | (simp; done) | (simp; omega) | (simp at *; done) | (simp at *; omega)) rfl rfl rfl (by rw [cellsOf48]; rfl) (by rw [info48]; rfl) rfl rfl ?_
      repeat (first | refine stp ?_ | refine N_block_pass rfl ?_ | refine sp1 ?_ | refine sg1 ?_ | refine WL_nil ?_)
      exact rt1 []
end Go.Proofs.Ythalijmfhllgbaa

/-
  Chapter 10's law ClockWrites, walked: it returns true. No condition.
-/
import Derived.Test.YthalijmfhllgbaaSxV
import Derived.Test.YthalijmfhllgbaaD19
import Derived.Test.YthalijmfhllgbaaD1
import Derived.Test.YthalijmfhllgbaaSxQ
namespace Go.Proofs.Ythalijmfhllgbaa
set_option linter.unusedSimpArgs false
set_option linter.unusedVariables false
open Go.Sx Dt

set_option maxRecDepth 10000

theorem ofT_right {k : Int} (h : k = 23 ∨ k = 24) : rightT (ofT k) = true ∧ ofT k = (0, k, false) := by rcases h with rfl | rfl <;> decide
theorem con10_wf {k s : Int} (h : rightM k s = true) : WfB (con10 k s) := by
  have hp := at_parts (right_at h).1
  unfold con10
  have tw : ∀ n : Int, 0 ≤ n → WfB (tw2 n) := by
    intro n hn x hx
    simp only [tw2, List.mem_cons, List.not_mem_nil, or_false] at hx
    rcases hx with rfl | rfl <;> omega
  have tws : ∀ l : List Int, (∀ x ∈ l, 0 ≤ x) → WfB (tws2 l) := by
    intro l hl x hx
    obtain ⟨n, h1, h2⟩ := List.mem_flatMap.1 hx
    exact tw n (hl n h1) x h2
  unfold momL
  refine wfB_app (wfB_app ?_ (tws _ fun x hx => ?_)) (fun x hx => by rw [List.mem_singleton.1 hx]; omega)
  · split
    · exact tws _ fun x hx => by rw [List.mem_singleton.1 hx]; omega
    · intro x hx; cases hx
  · simp only [List.mem_cons, List.not_mem_nil, or_false] at hx
    omega
end Go.Proofs.Ythalijmfhllgbaa

namespace Go.Proofs.Ythalijmfhllgbaa
set_option linter.unusedSimpArgs false
set_option linter.unusedVariables false
open Go.Sx Dt

set_option maxRecDepth 10000

set_option maxHeartbeats 4000000 in
theorem writes10_ok (k s : Int) (hk0 : (Lit.int .i64 k).wf = true) (hs0 : (Lit.int .i64 s).wf = true) : Ct Try.prog 5 [timA k s] [] (lv (.bool true)) [] [] := by
  have hkn := known10ex_ok
  have hto := lawto_ok k s
  have g1 := of10_ok s
  have g2 := general_ok s
  have g3 := rkind_ok s
  have g4 := kind_ok s
  have g5 := rightM_ok k s
  have g6 := rrightM_ok k s
  have hK2 : kindN s = 0 ∨ kindN s ≠ 0 := by omega
  cases hr : rightM k s with
  | true =>
    have w1 := con10_ok k s hr
    have w2 := write10_ok k s hr
    have w3 := rcon10_ok k s hr
    rw [hr] at g5 g6
    have hw := con10_wf hr
    have hl := con10_len k s
    have hk1 : k = 23 ∨ k = 24 := (right_at hr).2.symm
    have hn : kindN s ≠ 0 := by
      intro h0
      unfold rightM at hr
      rw [h0] at hr
      simp at hr
    rw [if_neg hn, if_neg hn] at g1
    rw [if_neg hn, if_neg hn, if_neg hn] at g2
    have s1 := same_ok (con10 k s) (con10 k s) (by omega) (by omega)
    have s2 := same_ok (whole10 k s) (whole10 k s) (by have := wrap_len (ofT k) (con10 k s); unfold whole10; omega) (by have := wrap_len (ofT k) (con10 k s); unfold whole10; omega)
    have h1 := refoft_ok k
    have h2 := refwrap_ok (ofT k) (con10 k s) (ofT_right hk1).1 (by omega)
    change Ct Try.prog _ [tagA (ofT k), B8 (con10 k s)] [] (B8 (whole10 k s)) [] [] at h2
    generalize whole10 k s = W at *
    generalize con10 k s = C at *
    generalize ofT k = T at *
    generalize kindN s = K at *
    obtain ⟨T1, T2, T3⟩ := T
    refine Ct_intro Try.func5 rfl rfl rfl rfl rfl (fun E hn hb => ?_)
    repeat refine nx ?_
    refine rt2 [] (congrArg (fun x => lv (.bool x)) ?_) trivial; (simp [eqCs, Cell.kill, Cell.kill1])
  | false =>
    have w1 := con10_err k s hr
    have w2 := write10_err k s hr
    rw [hr] at g5 g6
    rcases hK2 with hn | hn
    · rw [hn] at g1 g2 g3 g4
      refine Ct_intro Try.func5 rfl rfl rfl rfl rfl (fun E hn hb => ?_)
      repeat refine nx ?_
      refine W_cond rfl (by simp) (fun hc => ?_) (fun hc => ?_)
      · simp [eqCs, Cell.kill, Cell.kill1, Value.cells] at hc
      repeat refine nx ?_
      exact rt1 []
    · rw [if_neg hn, if_neg hn] at g1
      rw [if_neg hn, if_neg hn, if_neg hn] at g2
      generalize kindN s = K at *
      refine Ct_intro Try.func5 rfl rfl rfl rfl rfl (fun E hn hb => ?_)
      repeat refine nx ?_
      exact rt1 []
end Go.Proofs.Ythalijmfhllgbaa

/-
  Chapter 02, the document's answer: tags, lengths, contents. The conditions: rows of at most a million bytes.
-/
import Derived.Test.YtppmfjopokkhmaaC7
namespace Go.Proofs.Ytppmfjopokkhmaa
set_option linter.unusedSimpArgs false
set_option linter.unusedVariables false
open Go.Sx

set_option maxRecDepth 10000

theorem refoft_ok (n : Int) : Ct Try.prog 59 [lv (.int .i64 n)] [] (tagA (ofT n)) [] [] := by
  refine Ct_intro Try.func59 rfl rfl rfl rfl rfl (fun E hn hb => ?_)
  repeat (first | refine W_seq ?_ | refine W_region ?_ | refine W_block ?_ | refine W_skip ?_ | refine W_ret ?_ | refine W_exit ?_ | refine WL_nil ?_ | refine N_then ?_ | refine N_then_exit ?_ | refine N_then_ret ?_ | refine N_block ?_ | refine N_block_ret ?_ | refine N_block_exit ?_ | refine N_block_pass rfl ?_ | refine W_scope ?_ | refine W_label ?_ | refine N_scope ?_ | refine N_scope_ret ?_ | refine N_scope_exit ?_ | refine sp true rfl rfl (by rw [hn]; rfl) (by first | trivial | (simp; done) | (simp; omega) | (simp at *; done) | (simp at *; omega)) ?_ | refine sg true rfl rfl rfl (by rw [hn]; rfl) (by intro hG; first | trivial | (simp; done) | (simp; omega) | (simp at *; done) | (simp at *; omega)) ?_)
  refine s_allocN rfl rfl rfl (by rw [hn]; rfl) rfl zok86 ?_
  repeat (first | refine W_seq ?_ | refine W_region ?_ | refine W_block ?_ | refine W_skip ?_ | refine W_ret ?_ | refine W_exit ?_ | refine WL_nil ?_ | refine N_then ?_ | refine N_then_exit ?_ | refine N_then_ret ?_ | refine N_block ?_ | refine N_block_ret ?_ | refine N_block_exit ?_ | refine N_block_pass rfl ?_ | refine W_scope ?_ | refine W_label ?_ | refine N_scope ?_ | refine N_scope_ret ?_ | refine N_scope_exit ?_ | refine sp true rfl rfl (by rw [hn]; rfl) (by first | trivial | (simp; done) | (simp; omega) | (simp at *; done) | (simp at *; omega)) ?_ | refine sg true rfl rfl rfl (by rw [hn]; rfl) (by intro hG; first | trivial | (simp; done) | (simp; omega) | (simp at *; done) | (simp at *; omega)) ?_)
  refine s_storeN rfl rfl rfl rfl rfl (by first | trivial | (simp; done) | (simp; omega) | (simp at *; done) | (simp at *; omega)) rfl rfl rfl (by rw [cellsOf86]; rfl) (by rw [info86]; rfl) rfl rfl ?_
  repeat (first | refine W_seq ?_ | refine W_region ?_ | refine W_block ?_ | refine W_skip ?_ | refine W_ret ?_ | refine W_exit ?_ | refine WL_nil ?_ | refine N_then ?_ | refine N_then_exit ?_ | refine N_then_ret ?_ | refine N_block ?_ | refine N_block_ret ?_ | refine N_block_exit ?_ | refine N_block_pass rfl ?_ | refine W_scope ?_ | refine W_label ?_ | refine N_scope ?_ | refine N_scope_ret ?_ | refine N_scope_exit ?_ | refine sp true rfl rfl (by rw [hn]; rfl) (by first | trivial | (simp; done) | (simp; omega) | (simp at *; done) | (simp at *; omega)) ?_ | refine sg true rfl rfl rfl (by rw [hn]; rfl) (by intro hG; first | trivial | (simp; done) | (simp; omega) | (simp at *; done) | (simp at *; omega)) ?_)
  refine N_retN [] rfl (by first | trivial | (simp; done) | (simp; omega) | (simp at *; done) | (simp at *; omega)) ⟨?_, by first | trivial | exact ⟨rfl, rfl⟩, ?_, rfl⟩ hb rfl (by first | trivial | (simp; done) | (simp [ordL]; done))
  · show Av.agg [.lf (.v (.int .i64 0)), .lf (.v (.int .i64 n)), .lf (.v (.bool (cond (n == 16) true (n == 17))))] = _
    have e : (cond (n == 16) true (n == 17)) = decide (n = 16 ∨ n = 17) := by
      by_cases h1 : n = 16 <;> by_cases h2 : n = 17 <;> simp [h1, h2]
    rw [e]
    rfl
  · trivial
structure RS where
  i : Nat
  n : Int
def RS.ok (l : List Int) (p : Nat) (s : RS) : Prop := s.i ≤ 3 ∧ p + 1 + s.i ≤ l.length ∧ numP l (3 - s.i) (p + 1 + s.i) s.n = numP l 3 (p + 1) 0 ∧ 0 ≤ s.n ∧ (s.i = 0 ∧ s.n < 1 ∨ s.i = 1 ∧ s.n < 128 ∨ s.i = 2 ∧ s.n < 16384 ∨ s.i = 3 ∧ s.n < 2097152)
end Go.Proofs.Ytppmfjopokkhmaa

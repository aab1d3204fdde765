/-
  Chapter 03: numbers that are read. The conditions: rows of at most a thousand bytes.
-/
import Derived.Test.YtppmfjopokkhmaaC6
import Derived.Test.YtppmfjopokkhmaaW15
import Derived.Test.YtppmfjopokkhmaaW17
namespace Go.Proofs.Ytppmfjopokkhmaa
set_option linter.unusedSimpArgs false
set_option linter.unusedVariables false
open Go.Sx

set_option maxRecDepth 10000

/-- The number of a whole of a tag: it and the error, the place behind. -/
def parsedP (l : List Int) (p : Nat) (t : TagP) : (Bool × List Int × Int) × Nat :=
  if (openP l p t).2.2 = 0 then
    if (parseN (openP l p t).1).2.2 = 0 then (parseN (openP l p t).1, (openP l p t).2.1) else (parseN (openP l p t).1, p)
  else ((false, [], (openP l p t).2.2), p)
theorem parsedP_le (l : List Int) (p : Nat) (t : TagP) (hp : p ≤ l.length) : p ≤ (parsedP l p t).2 ∧ (parsedP l p t).2 ≤ l.length := by
  have := openP_le l p t hp
  unfold parsedP
  split
  · split <;> dsimp only <;> omega
  · dsimp only; omega
theorem openP_mem (l : List Int) (p : Nat) (t : TagP) : (openP l p t).1.length ≤ l.length ∧ ∀ x ∈ (openP l p t).1, x ∈ l := by
  unfold openP keepP
  split
  · unfold rawO
    split
    · split
      · split
        · simp
        · constructor
          · simp; omega
          · intro x hx
            exact List.mem_of_mem_drop (List.mem_of_mem_take hx)
      · simp
    · simp
  · simp
theorem parsed_ok (l : List Int) (p : Nat) (t : TagP) (hp : p ≤ l.length) (hl : l.length ≤ 1000) (hw : WfB l) : Ct Try.prog 88 [.c (.ptr 0 0), tagA t] [curB l p] (numE (parsedP l p t).1) [curB l (parsedP l p t).2] [] := by
  obtain ⟨m1, m2⟩ := openP_mem l p t
  have hle := openP_le l p t hp
  generalize hRR : parsedP l p t = R
  unfold parsedP at hRR
  by_cases he : (openP l p t).2.2 = 0
  · have ho := open_ok l p t hp (by omega) hw he
    rw [if_pos he] at hRR
    generalize openP l p t = O at *
    have hx : WfB O.1 := fun x h => hw x (m2 x h)
    have hps := parse_ok O.1 (by omega) hx
    have hre := rest_ok O.1 0 (by omega) (by omega)
    rw [List.drop_zero] at hre
    have hbk := back_ok l O.2.1 p hle.1 (by omega)
    generalize parseN O.1 = N at *
    refine Ct_intro Try.func88 rfl rfl rfl rfl rfl (fun E hn hb => ?_)
    repeat (first | refine W_seq ?_ | refine W_region ?_ | refine W_block ?_ | refine W_skip ?_ | refine W_ret ?_ | refine W_exit ?_ | refine WL_nil ?_ | refine N_then ?_ | refine N_then_exit ?_ | refine N_then_ret ?_ | refine N_block ?_ | refine N_block_ret ?_ | refine N_block_exit ?_ | refine N_block_pass rfl ?_ | refine W_scope ?_ | refine W_label ?_ | refine N_scope ?_ | refine N_scope_ret ?_ | refine N_scope_exit ?_ | refine sp true rfl rfl (by rw [hn]; rfl) (by first | trivial | (simp; done) | (simp; omega) | (simp at *; done) | (simp at *; omega)) ?_ | refine sg true rfl rfl rfl (by rw [hn]; rfl) (by intro hG; first | trivial | (simp; done) | (simp; omega) | (simp at *; done) | (simp at *; omega)) ?_)
    refine s_boxN rfl rfl rfl (by rw [hn]; rfl) rfl (by first | trivial | (simp; done) | (simp; omega) | (simp at *; done) | (simp at *; omega)) rfl rfl ?_
    repeat (first | refine W_seq ?_ | refine W_region ?_ | refine W_block ?_ | refine W_skip ?_ | refine W_ret ?_ | refine W_exit ?_ | refine WL_nil ?_ | refine N_then ?_ | refine N_then_exit ?_ | refine N_then_ret ?_ | refine N_block ?_ | refine N_block_ret ?_ | refine N_block_exit ?_ | refine N_block_pass rfl ?_ | refine W_scope ?_ | refine W_label ?_ | refine N_scope ?_ | refine N_scope_ret ?_ | refine N_scope_exit ?_ | refine sp true rfl rfl (by rw [hn]; rfl) (by first | trivial | (simp; done) | (simp; omega) | (simp at *; done) | (simp at *; omega)) ?_ | refine sg true rfl rfl rfl (by rw [hn]; rfl) (by intro hG; first | trivial | (simp; done) | (simp; omega) | (simp at *; done) | (simp at *; omega)) ?_)
    refine s_allocN rfl rfl rfl (by rw [hn]; rfl) rfl zok30 ?_
    repeat (first | refine W_seq ?_ | refine W_region ?_ | refine W_block ?_ | refine W_skip ?_ | refine W_ret ?_ | refine W_exit ?_ | refine WL_nil ?_ | refine N_then ?_ | refine N_then_exit ?_ | refine N_then_ret ?_ | refine N_block ?_ | refine N_block_ret ?_ | refine N_block_exit ?_ | refine N_block_pass rfl ?_ | refine W_scope ?_ | refine W_label ?_ | refine N_scope ?_ | refine N_scope_ret ?_ | refine N_scope_exit ?_ | refine sp true rfl rfl (by rw [hn]; rfl) (by first | trivial | (simp; done) | (simp; omega) | (simp at *; done) | (simp at *; omega)) ?_ | refine sg true rfl rfl rfl (by rw [hn]; rfl) (by intro hG; first | trivial | (simp; done) | (simp; omega) | (simp at *; done) | (simp at *; omega)) ?_)
    refine WL_q (opq_of (opy_callL (at_ok l p) rfl rfl rfl (by first | trivial | (simp; done) | (simp; omega) | (simp at *; done) | (simp at *; omega)) ⟨.inr (.inr ⟨0, 0, _, _, rfl, rfl, rfl, rfl⟩), trivial⟩ rfl) rfl) (by rw [hn]; rfl) ?_
    repeat (first | refine W_seq ?_ | refine W_region ?_ | refine W_block ?_ | refine W_skip ?_ | refine W_ret ?_ | refine W_exit ?_ | refine WL_nil ?_ | refine N_then ?_ | refine N_then_exit ?_ | refine N_then_ret ?_ | refine N_block ?_ | refine N_block_ret ?_ | refine N_block_exit ?_ | refine N_block_pass rfl ?_ | refine W_scope ?_ | refine W_label ?_ | refine N_scope ?_ | refine N_scope_ret ?_ | refine N_scope_exit ?_ | refine sp true rfl rfl (by rw [hn]; rfl) (by first | trivial | (simp; done) | (simp; omega) | (simp at *; done) | (simp at *; omega)) ?_ | refine sg true rfl rfl rfl (by rw [hn]; rfl) (by intro hG; first | trivial | (simp; done) | (simp; omega) | (simp at *; done) | (simp at *; omega)) ?_)
    refine s_call [0] ho rfl rfl (by rw [hn]; rfl) rfl rfl (by trivial) ⟨rfl, rfl, (by simp [ordL]), rfl⟩ ?_
    repeat (first | refine W_seq ?_ | refine W_region ?_ | refine W_block ?_ | refine W_skip ?_ | refine W_ret ?_ | refine W_exit ?_ | refine WL_nil ?_ | refine N_then ?_ | refine N_then_exit ?_ | refine N_then_ret ?_ | refine N_block ?_ | refine N_block_ret ?_ | refine N_block_exit ?_ | refine N_block_pass rfl ?_ | refine W_scope ?_ | refine W_label ?_ | refine N_scope ?_ | refine N_scope_ret ?_ | refine N_scope_exit ?_ | refine sp true rfl rfl (by rw [hn]; rfl) (by first | trivial | (simp; done) | (simp; omega) | (simp at *; done) | (simp at *; omega)) ?_ | refine sg true rfl rfl rfl (by rw [hn]; rfl) (by intro hG; first | trivial | (simp; done) | (simp; omega) | (simp at *; done) | (simp at *; omega)) ?_)
    refine W_cond rfl (by simp) (fun h1 => ?_) (fun h1 => ?_)
    · simp at h1
    repeat (first | refine W_seq ?_ | refine W_region ?_ | refine W_block ?_ | refine W_skip ?_ | refine W_ret ?_ | refine W_exit ?_ | refine WL_nil ?_ | refine N_then ?_ | refine N_then_exit ?_ | refine N_then_ret ?_ | refine N_block ?_ | refine N_block_ret ?_ | refine N_block_exit ?_ | refine N_block_pass rfl ?_ | refine W_scope ?_ | refine W_label ?_ | refine N_scope ?_ | refine N_scope_ret ?_ | refine N_scope_exit ?_ | refine sp true rfl rfl (by rw [hn]; rfl) (by first | trivial | (simp; done) | (simp; omega) | (simp at *; done) | (simp at *; omega)) ?_ | refine sg true rfl rfl rfl (by rw [hn]; rfl) (by intro hG; first | trivial | (simp; done) | (simp; omega) | (simp at *; done) | (simp at *; omega)) ?_)
    refine s_call [79] hre rfl rfl (by rw [hn]; rfl) rfl rfl (by trivial) ⟨rfl, rfl, (by simp [ordL]), rfl⟩ ?_
    repeat (first | refine W_seq ?_ | refine W_region ?_ | refine W_block ?_ | refine W_skip ?_ | refine W_ret ?_ | refine W_exit ?_ | refine WL_nil ?_ | refine N_then ?_ | refine N_then_exit ?_ | refine N_then_ret ?_ | refine N_block ?_ | refine N_block_ret ?_ | refine N_block_exit ?_ | refine N_block_pass rfl ?_ | refine W_scope ?_ | refine W_label ?_ | refine N_scope ?_ | refine N_scope_ret ?_ | refine N_scope_exit ?_ | refine sp true rfl rfl (by rw [hn]; rfl) (by first | trivial | (simp; done) | (simp; omega) | (simp at *; done) | (simp at *; omega)) ?_ | refine sg true rfl rfl rfl (by rw [hn]; rfl) (by intro hG; first | trivial | (simp; done) | (simp; omega) | (simp at *; done) | (simp at *; omega)) ?_)
    refine s_call0 (hps) rfl rfl rfl (by rw [hn]; rfl) rfl rfl (by first | trivial | (simp; done) | (simp; omega) | (simp at *; done) | (simp at *; omega)) rfl rfl rfl ?_
    repeat (first | refine W_seq ?_ | refine W_region ?_ | refine W_block ?_ | refine W_skip ?_ | refine W_ret ?_ | refine W_exit ?_ | refine WL_nil ?_ | refine N_then ?_ | refine N_then_exit ?_ | refine N_then_ret ?_ | refine N_block ?_ | refine N_block_ret ?_ | refine N_block_exit ?_ | refine N_block_pass rfl ?_ | refine W_scope ?_ | refine W_label ?_ | refine N_scope ?_ | refine N_scope_ret ?_ | refine N_scope_exit ?_ | refine sp true rfl rfl (by rw [hn]; rfl) (by first | trivial | (simp; done) | (simp; omega) | (simp at *; done) | (simp at *; omega)) ?_ | refine sg true rfl rfl rfl (by rw [hn]; rfl) (by intro hG; first | trivial | (simp; done) | (simp; omega) | (simp at *; done) | (simp at *; omega)) ?_)
    refine s_allocN rfl rfl rfl (by rw [hn]; rfl) rfl zok30 ?_
    repeat (first | refine W_seq ?_ | refine W_region ?_ | refine W_block ?_ | refine W_skip ?_ | refine W_ret ?_ | refine W_exit ?_ | refine WL_nil ?_ | refine N_then ?_ | refine N_then_exit ?_ | refine N_then_ret ?_ | refine N_block ?_ | refine N_block_ret ?_ | refine N_block_exit ?_ | refine N_block_pass rfl ?_ | refine W_scope ?_ | refine W_label ?_ | refine N_scope ?_ | refine N_scope_ret ?_ | refine N_scope_exit ?_ | refine sp true rfl rfl (by rw [hn]; rfl) (by first | trivial | (simp; done) | (simp; omega) | (simp at *; done) | (simp at *; omega)) ?_ | refine sg true rfl rfl rfl (by rw [hn]; rfl) (by intro hG; first | trivial | (simp; done) | (simp; omega) | (simp at *; done) | (simp at *; omega)) ?_)
    refine s_storeN rfl rfl rfl rfl rfl (by first | trivial | (simp; done) | (simp; omega) | (simp at *; done) | (simp at *; omega)) rfl rfl rfl (by rw [cellsOf30]; rfl) (by rw [info30]; rfl) rfl rfl ?_
    repeat (first | refine W_seq ?_ | refine W_region ?_ | refine W_block ?_ | refine W_skip ?_ | refine W_ret ?_ | refine W_exit ?_ | refine WL_nil ?_ | refine N_then ?_ | refine N_then_exit ?_ | refine N_then_ret ?_ | refine N_block ?_ | refine N_block_ret ?_ | refine N_block_exit ?_ | refine N_block_pass rfl ?_ | refine W_scope ?_ | refine W_label ?_ | refine N_scope ?_ | refine N_scope_ret ?_ | refine N_scope_exit ?_ | refine sp true rfl rfl (by rw [hn]; rfl) (by first | trivial | (simp; done) | (simp; omega) | (simp at *; done) | (simp at *; omega)) ?_ | refine sg true rfl rfl rfl (by rw [hn]; rfl) (by intro hG; first | trivial | (simp; done) | (simp; omega) | (simp at *; done) | (simp at *; omega)) ?_)
    refine W_cond rfl (by simp) (fun h1 => ?_) (fun h1 => ?_)
    · have h1' : ¬ N.2.2 = 0 := by simpa using h1
      rw [if_neg h1'] at hRR
      subst hRR
      repeat (first | refine W_seq ?_ | refine W_region ?_ | refine W_block ?_ | refine W_skip ?_ | refine W_ret ?_ | refine W_exit ?_ | refine WL_nil ?_ | refine N_then ?_ | refine N_then_exit ?_ | refine N_then_ret ?_ | refine N_block ?_ | refine N_block_ret ?_ | refine N_block_exit ?_ | refine N_block_pass rfl ?_ | refine W_scope ?_ | refine W_label ?_ | refine N_scope ?_ | refine N_scope_ret ?_ | refine N_scope_exit ?_ | refine sp true rfl rfl (by rw [hn]; rfl) (by first | trivial | (simp; done) | (simp; omega) | (simp at *; done) | (simp at *; omega)) ?_ | refine sg true rfl rfl rfl (by rw [hn]; rfl) (by intro hG; first | trivial | (simp; done) | (simp; omega) | (simp at *; done) | (simp at *; omega)) ?_)
      refine s_call [0] hbk rfl rfl (by rw [hn]; rfl) rfl rfl (by trivial) ⟨rfl, rfl, (by simp [ordL]), rfl⟩ ?_
      repeat (first | refine W_seq ?_ | refine W_region ?_ | refine W_block ?_ | refine W_skip ?_ | refine W_ret ?_ | refine W_exit ?_ | refine WL_nil ?_ | refine N_then ?_ | refine N_then_exit ?_ | refine N_then_ret ?_ | refine N_block ?_ | refine N_block_ret ?_ | refine N_block_exit ?_ | refine N_block_pass rfl ?_ | refine W_scope ?_ | refine W_label ?_ | refine N_scope ?_ | refine N_scope_ret ?_ | refine N_scope_exit ?_ | refine sp true rfl rfl (by rw [hn]; rfl) (by first | trivial | (simp; done) | (simp; omega) | (simp at *; done) | (simp at *; omega)) ?_ | refine sg true rfl rfl rfl (by rw [hn]; rfl) (by intro hG; first | trivial | (simp; done) | (simp; omega) | (simp at *; done) | (simp at *; omega)) ?_)
      refine s_storeN rfl rfl rfl rfl rfl (by first | trivial | (simp; done) | (simp; omega) | (simp at *; done) | (simp at *; omega)) rfl rfl rfl (by rw [cellsOf30]; rfl) (by rw [info30]; rfl) rfl rfl ?_
      repeat (first | refine W_seq ?_ | refine W_region ?_ | refine W_block ?_ | refine W_skip ?_ | refine W_ret ?_ | refine W_exit ?_ | refine WL_nil ?_ | refine N_then ?_ | refine N_then_exit ?_ | refine N_then_ret ?_ | refine N_block ?_ | refine N_block_ret ?_ | refine N_block_exit ?_ | refine N_block_pass rfl ?_ | refine W_scope ?_ | refine W_label ?_ | refine N_scope ?_ | refine N_scope_ret ?_ | refine N_scope_exit ?_ | refine sp true rfl rfl (by rw [hn]; rfl) (by first | trivial | (simp; done) | (simp; omega) | (simp at *; done) | (simp at *; omega)) ?_ | refine sg true rfl rfl rfl (by rw [hn]; rfl) (by intro hG; first | trivial | (simp; done) | (simp; omega) | (simp at *; done) | (simp at *; omega)) ?_)
      exact N_retN [] rfl (by first | trivial | (simp; done) | (simp; omega) | (simp at *; done) | (simp at *; omega)) ⟨rfl, by first | trivial | exact ⟨rfl, rfl⟩, by first | trivial | exact rfl | exact ⟨rfl, rfl⟩, rfl⟩ hb rfl (by first | trivial | (simp; done) | (simp [ordL]; done))
    · have h1' : N.2.2 = 0 := by simpa using h1
      rw [if_pos h1'] at hRR
      subst hRR
      repeat (first | refine W_seq ?_ | refine W_region ?_ | refine W_block ?_ | refine W_skip ?_ | refine W_ret ?_ | refine W_exit ?_ | refine WL_nil ?_ | refine N_then ?_ | refine N_then_exit ?_ | refine N_then_ret ?_ | refine N_block ?_ | refine N_block_ret ?_ | refine N_block_exit ?_ | refine N_block_pass rfl ?_ | refine W_scope ?_ | refine W_label ?_ | refine N_scope ?_ | refine N_scope_ret ?_ | refine N_scope_exit ?_ | refine sp true rfl rfl (by rw [hn]; rfl) (by first | trivial | (simp; done) | (simp; omega) | (simp at *; done) | (simp at *; omega)) ?_ | refine sg true rfl rfl rfl (by rw [hn]; rfl) (by intro hG; first | trivial | (simp; done) | (simp; omega) | (simp at *; done) | (simp at *; omega)) ?_)
      refine s_storeN rfl rfl rfl rfl rfl (by first | trivial | (simp; done) | (simp; omega) | (simp at *; done) | (simp at *; omega)) rfl rfl rfl (by rw [cellsOf30]; rfl) (by rw [info30]; rfl) rfl rfl ?_
      repeat (first | refine W_seq ?_ | refine W_region ?_ | refine W_block ?_ | refine W_skip ?_ | refine W_ret ?_ | refine W_exit ?_ | refine WL_nil ?_ | refine N_then ?_ | refine N_then_exit ?_ | refine N_then_ret ?_ | refine N_block ?_ | refine N_block_ret ?_ | refine N_block_exit ?_ | refine N_block_pass rfl ?_ | refine W_scope ?_ | refine W_label ?_ | refine N_scope ?_ | refine N_scope_ret ?_ | refine N_scope_exit ?_ | refine sp true rfl rfl (by rw [hn]; rfl) (by first | trivial | (simp; done) | (simp; omega) | (simp at *; done) | (simp at *; omega)) ?_ | refine sg true rfl rfl rfl (by rw [hn]; rfl) (by intro hG; first | trivial | (simp; done) | (simp; omega) | (simp at *; done) | (simp at *; omega)) ?_)
      exact N_retN [] rfl (by first | trivial | (simp; done) | (simp; omega) | (simp at *; done) | (simp at *; omega)) ⟨rfl, by first | trivial | exact ⟨rfl, rfl⟩, by first | trivial | exact rfl | exact ⟨rfl, rfl⟩, rfl⟩ hb rfl (by first | trivial | (simp; done) | (simp [ordL]; done))
  · have ho := open_err l p t hp (by omega) hw he
    rw [if_neg he] at hRR
    subst hRR
    generalize openP l p t = O at *
    refine Ct_intro Try.func88 rfl rfl rfl rfl rfl (fun E hn hb => ?_)
    repeat (first | refine W_seq ?_ | refine W_region ?_ | refine W_block ?_ | refine W_skip ?_ | refine W_ret ?_ | refine W_exit ?_ | refine WL_nil ?_ | refine N_then ?_ | refine N_then_exit ?_ | refine N_then_ret ?_ | refine N_block ?_ | refine N_block_ret ?_ | refine N_block_exit ?_ | refine N_block_pass rfl ?_ | refine W_scope ?_ | refine W_label ?_ | refine N_scope ?_ | refine N_scope_ret ?_ | refine N_scope_exit ?_ | refine sp true rfl rfl (by rw [hn]; rfl) (by first | trivial | (simp; done) | (simp; omega) | (simp at *; done) | (simp at *; omega)) ?_ | refine sg true rfl rfl rfl (by rw [hn]; rfl) (by intro hG; first | trivial | (simp; done) | (simp; omega) | (simp at *; done) | (simp at *; omega)) ?_)
    refine s_boxN rfl rfl rfl (by rw [hn]; rfl) rfl (by first | trivial | (simp; done) | (simp; omega) | (simp at *; done) | (simp at *; omega)) rfl rfl ?_
    repeat (first | refine W_seq ?_ | refine W_region ?_ | refine W_block ?_ | refine W_skip ?_ | refine W_ret ?_ | refine W_exit ?_ | refine WL_nil ?_ | refine N_then ?_ | refine N_then_exit ?_ | refine N_then_ret ?_ | refine N_block ?_ | refine N_block_ret ?_ | refine N_block_exit ?_ | refine N_block_pass rfl ?_ | refine W_scope ?_ | refine W_label ?_ | refine N_scope ?_ | refine N_scope_ret ?_ | refine N_scope_exit ?_ | refine sp true rfl rfl (by rw [hn]; rfl) (by first | trivial | (simp; done) | (simp; omega) | (simp at *; done) | (simp at *; omega)) ?_ | refine sg true rfl rfl rfl (by rw [hn]; rfl) (by intro hG; first | trivial | (simp; done) | (simp; omega) | (simp at *; done) | (simp at *; omega)) ?_)
    refine s_allocN rfl rfl rfl (by rw [hn]; rfl) rfl zok30 ?_
    repeat (first | refine W_seq ?_ | refine W_region ?_ | refine W_block ?_ | refine W_skip ?_ | refine W_ret ?_ | refine W_exit ?_ | refine WL_nil ?_ | refine N_then ?_ | refine N_then_exit ?_ | refine N_then_ret ?_ | refine N_block ?_ | refine N_block_ret ?_ | refine N_block_exit ?_ | refine N_block_pass rfl ?_ | refine W_scope ?_ | refine W_label ?_ | refine N_scope ?_ | refine N_scope_ret ?_ | refine N_scope_exit ?_ | refine sp true rfl rfl (by rw [hn]; rfl) (by first | trivial | (simp; done) | (simp; omega) | (simp at *; done) | (simp at *; omega)) ?_ | refine sg true rfl rfl rfl (by rw [hn]; rfl) (by intro hG; first | trivial | (simp; done) | (simp; omega) | (simp at *; done) | (simp at *; omega)) ?_)
    refine WL_q (opq_of (opy_callL (at_ok l p) rfl rfl rfl (by first | trivial | (simp; done) | (simp; omega) | (simp at *; done) | (simp at *; omega)) ⟨.inr (.inr ⟨0, 0, _, _, rfl, rfl, rfl, rfl⟩), trivial⟩ rfl) rfl) (by rw [hn]; rfl) ?_
    repeat (first | refine W_seq ?_ | refine W_region ?_ | refine W_block ?_ | refine W_skip ?_ | refine W_ret ?_ | refine W_exit ?_ | refine WL_nil ?_ | refine N_then ?_ | refine N_then_exit ?_ | refine N_then_ret ?_ | refine N_block ?_ | refine N_block_ret ?_ | refine N_block_exit ?_ | refine N_block_pass rfl ?_ | refine W_scope ?_ | refine W_label ?_ | refine N_scope ?_ | refine N_scope_ret ?_ | refine N_scope_exit ?_ | refine sp true rfl rfl (by rw [hn]; rfl) (by first | trivial | (simp; done) | (simp; omega) | (simp at *; done) | (simp at *; omega)) ?_ | refine sg true rfl rfl rfl (by rw [hn]; rfl) (by intro hG; first | trivial | (simp; done) | (simp; omega) | (simp at *; done) | (simp at *; omega)) ?_)
    refine s_call [0] ho rfl rfl (by rw [hn]; rfl) rfl rfl (by trivial) ⟨rfl, rfl, (by simp [ordL]), rfl⟩ ?_
    repeat (first | refine W_seq ?_ | refine W_region ?_ | refine W_block ?_ | refine W_skip ?_ | refine W_ret ?_ | refine W_exit ?_ | refine WL_nil ?_ | refine N_then ?_ | refine N_then_exit ?_ | refine N_then_ret ?_ | refine N_block ?_ | refine N_block_ret ?_ | refine N_block_exit ?_ | refine N_block_pass rfl ?_ | refine W_scope ?_ | refine W_label ?_ | refine N_scope ?_ | refine N_scope_ret ?_ | refine N_scope_exit ?_ | refine sp true rfl rfl (by rw [hn]; rfl) (by first | trivial | (simp; done) | (simp; omega) | (simp at *; done) | (simp at *; omega)) ?_ | refine sg true rfl rfl rfl (by rw [hn]; rfl) (by intro hG; first | trivial | (simp; done) | (simp; omega) | (simp at *; done) | (simp at *; omega)) ?_)
    refine W_cond rfl (by simp) (fun h1 => ?_) (fun h1 => ?_)
    · repeat (first | refine W_seq ?_ | refine W_region ?_ | refine W_block ?_ | refine W_skip ?_ | refine W_ret ?_ | refine W_exit ?_ | refine WL_nil ?_ | refine N_then ?_ | refine N_then_exit ?_ | refine N_then_ret ?_ | refine N_block ?_ | refine N_block_ret ?_ | refine N_block_exit ?_ | refine N_block_pass rfl ?_ | refine W_scope ?_ | refine W_label ?_ | refine N_scope ?_ | refine N_scope_ret ?_ | refine N_scope_exit ?_ | refine sp true rfl rfl (by rw [hn]; rfl) (by first | trivial | (simp; done) | (simp; omega) | (simp at *; done) | (simp at *; omega)) ?_ | refine sg true rfl rfl rfl (by rw [hn]; rfl) (by intro hG; first | trivial | (simp; done) | (simp; omega) | (simp at *; done) | (simp at *; omega)) ?_)
      refine s_storeN rfl rfl rfl rfl rfl (by first | trivial | (simp; done) | (simp; omega) | (simp at *; done) | (simp at *; omega)) rfl rfl rfl (by rw [cellsOf30]; rfl) (by rw [info30]; rfl) rfl rfl ?_
      repeat (first | refine W_seq ?_ | refine W_region ?_ | refine W_block ?_ | refine W_skip ?_ | refine W_ret ?_ | refine W_exit ?_ | refine WL_nil ?_ | refine N_then ?_ | refine N_then_exit ?_ | refine N_then_ret ?_ | refine N_block ?_ | refine N_block_ret ?_ | refine N_block_exit ?_ | refine N_block_pass rfl ?_ | refine W_scope ?_ | refine W_label ?_ | refine N_scope ?_ | refine N_scope_ret ?_ | refine N_scope_exit ?_ | refine sp true rfl rfl (by rw [hn]; rfl) (by first | trivial | (simp; done) | (simp; omega) | (simp at *; done) | (simp at *; omega)) ?_ | refine sg true rfl rfl rfl (by rw [hn]; rfl) (by intro hG; first | trivial | (simp; done) | (simp; omega) | (simp at *; done) | (simp at *; omega)) ?_)
      refine N_retU [] rfl (by simp) (r' := .tup [numA false [], lv (.int .i64 O.2.2)]) ⟨⟨.inl rfl, .inr ⟨rfl, .inl ⟨_, rfl⟩⟩, trivial⟩, .inl rfl, trivial⟩ ⟨rfl, rfl, trivial, rfl⟩ hb rfl (by simp [ordL])
    · simp [he] at h1
def ofT (n : Int) : TagP := (0, n, decide (n = 16 ∨ n = 17))
theorem headof_ok (n : Int) : Ct Try.prog 89 [lv (.int .i64 n)] [] (tagA (ofT n)) [] [] := by
  refine Ct_intro Try.func89 rfl rfl rfl rfl rfl (fun E hn hb => ?_)
  repeat (first | refine W_seq ?_ | refine W_region ?_ | refine W_block ?_ | refine W_skip ?_ | refine W_ret ?_ | refine W_exit ?_ | refine WL_nil ?_ | refine N_then ?_ | refine N_then_exit ?_ | refine N_then_ret ?_ | refine N_block ?_ | refine N_block_ret ?_ | refine N_block_exit ?_ | refine N_block_pass rfl ?_ | refine W_scope ?_ | refine W_label ?_ | refine N_scope ?_ | refine N_scope_ret ?_ | refine N_scope_exit ?_ | refine sp true rfl rfl (by rw [hn]; rfl) (by first | trivial | (simp; done) | (simp; omega) | (simp at *; done) | (simp at *; omega)) ?_ | refine sg true rfl rfl rfl (by rw [hn]; rfl) (by intro hG; first | trivial | (simp; done) | (simp; omega) | (simp at *; done) | (simp at *; omega)) ?_)
  refine s_allocN rfl rfl rfl (by rw [hn]; rfl) rfl zok119 ?_
  repeat (first | refine W_seq ?_ | refine W_region ?_ | refine W_block ?_ | refine W_skip ?_ | refine W_ret ?_ | refine W_exit ?_ | refine WL_nil ?_ | refine N_then ?_ | refine N_then_exit ?_ | refine N_then_ret ?_ | refine N_block ?_ | refine N_block_ret ?_ | refine N_block_exit ?_ | refine N_block_pass rfl ?_ | refine W_scope ?_ | refine W_label ?_ | refine N_scope ?_ | refine N_scope_ret ?_ | refine N_scope_exit ?_ | refine sp true rfl rfl (by rw [hn]; rfl) (by first | trivial | (simp; done) | (simp; omega) | (simp at *; done) | (simp at *; omega)) ?_ | refine sg true rfl rfl rfl (by rw [hn]; rfl) (by intro hG; first | trivial | (simp; done) | (simp; omega) | (simp at *; done) | (simp at *; omega)) ?_)
  refine s_storeN rfl rfl rfl rfl rfl (by first | trivial | (simp; done) | (simp; omega) | (simp at *; done) | (simp at *; omega)) rfl rfl rfl (by rw [cellsOf119]; rfl) (by rw [info119]; rfl) rfl rfl ?_
  repeat (first | refine W_seq ?_ | refine W_region ?_ | refine W_block ?_ | refine W_skip ?_ | refine W_ret ?_ | refine W_exit ?_ | refine WL_nil ?_ | refine N_then ?_ | refine N_then_exit ?_ | refine N_then_ret ?_ | refine N_block ?_ | refine N_block_ret ?_ | refine N_block_exit ?_ | refine N_block_pass rfl ?_ | refine W_scope ?_ | refine W_label ?_ | refine N_scope ?_ | refine N_scope_ret ?_ | refine N_scope_exit ?_ | refine sp true rfl rfl (by rw [hn]; rfl) (by first | trivial | (simp; done) | (simp; omega) | (simp at *; done) | (simp at *; omega)) ?_ | refine sg true rfl rfl rfl (by rw [hn]; rfl) (by intro hG; first | trivial | (simp; done) | (simp; omega) | (simp at *; done) | (simp at *; omega)) ?_)
  refine N_retN [] rfl (by first | trivial | (simp; done) | (simp; omega) | (simp at *; done) | (simp at *; omega)) ⟨?_, by first | trivial | exact ⟨rfl, rfl⟩, ?_, rfl⟩ hb rfl (by first | trivial | (simp; done) | (simp [ordL]; done))
  · show Av.agg [.lf (.v (.int .i64 0)), .lf (.v (.int .i64 n)), .lf (.v (.bool (cond (n == 16) true (n == 17))))] = _
    have e : (cond (n == 16) true (n == 17)) = decide (n = 16 ∨ n = 17) := by
      by_cases h1 : n = 16 <;> by_cases h2 : n = 17 <;> simp [h1, h2]
    rw [e]
    rfl
  · trivial
def rightT (t : TagP) : Bool := decide (0 ≤ t.1 ∧ t.1 ≤ 3 ∧ 0 ≤ t.2.1 ∧ t.2.1 < 2097152)
theorem headright_ok (t : TagP) : Ct Try.prog 91 [tagA t] [] (lv (.bool (rightT t))) [] [] := by
  refine Ct_intro Try.func91 rfl rfl rfl rfl rfl (fun E hn hb => ?_)
  repeat (first | refine W_seq ?_ | refine W_region ?_ | refine W_block ?_ | refine W_skip ?_ | refine W_ret ?_ | refine W_exit ?_ | refine WL_nil ?_ | refine N_then ?_ | refine N_then_exit ?_ | refine N_then_ret ?_ | refine N_block ?_ | refine N_block_ret ?_ | refine N_block_exit ?_ | refine N_block_pass rfl ?_ | refine W_scope ?_ | refine W_label ?_ | refine N_scope ?_ | refine N_scope_ret ?_ | refine N_scope_exit ?_ | refine sp true rfl rfl (by rw [hn]; rfl) (by first | trivial | (simp; done) | (simp; omega) | (simp at *; done) | (simp at *; omega)) ?_ | refine sg true rfl rfl rfl (by rw [hn]; rfl) (by intro hG; first | trivial | (simp; done) | (simp; omega) | (simp at *; done) | (simp at *; omega)) ?_)
  refine s_boxN rfl rfl rfl (by rw [hn]; rfl) rfl (by first | trivial | (simp; done) | (simp; omega) | (simp at *; done) | (simp at *; omega)) rfl rfl ?_
  repeat (first | refine W_seq ?_ | refine W_region ?_ | refine W_block ?_ | refine W_skip ?_ | refine W_ret ?_ | refine W_exit ?_ | refine WL_nil ?_ | refine N_then ?_ | refine N_then_exit ?_ | refine N_then_ret ?_ | refine N_block ?_ | refine N_block_ret ?_ | refine N_block_exit ?_ | refine N_block_pass rfl ?_ | refine W_scope ?_ | refine W_label ?_ | refine N_scope ?_ | refine N_scope_ret ?_ | refine N_scope_exit ?_ | refine sp true rfl rfl (by rw [hn]; rfl) (by first | trivial | (simp; done) | (simp; omega) | (simp at *; done) | (simp at *; omega)) ?_ | refine sg true rfl rfl rfl (by rw [hn]; rfl) (by intro hG; first | trivial | (simp; done) | (simp; omega) | (simp at *; done) | (simp at *; omega)) ?_)
  refine N_retN [] rfl (by first | trivial | (simp; done) | (simp; omega) | (simp at *; done) | (simp at *; omega)) ⟨?_, by first | trivial | exact ⟨rfl, rfl⟩, ?_, rfl⟩ hb rfl (by first | trivial | (simp; done) | (simp [ordL]; done))
  · show lv (.bool (cond (cond (cond (decide (0 ≤ t.1)) (decide (t.1 ≤ 3)) false) (decide (0 ≤ t.2.1)) false) (decide (t.2.1 < 2097152)) false)) = _
    have e : (cond (cond (cond (decide (0 ≤ t.1)) (decide (t.1 ≤ 3)) false) (decide (0 ≤ t.2.1)) false) (decide (t.2.1 < 2097152)) false) = rightT t := by
      unfold rightT
      by_cases h1 : 0 ≤ t.1 <;> by_cases h2 : t.1 ≤ 3 <;> by_cases h3 : 0 ≤ t.2.1 <;> by_cases h4 : t.2.1 < 2097152 <;> simp [h1, h2, h3, h4]
    rw [e]
    rfl
  · trivial
theorem wread_ok (l : List Int) (p : Nat) (hp : p ≤ l.length) (hl : l.length ≤ 1000) (hw : WfB l) : Ct Try.prog 57 [.c (.ptr 0 0)] [curB l p] (numE (parsedP l p (ofT 2)).1) [curB l (parsedP l p (ofT 2)).2] [] := by
  have hk := parsed_ok l p (ofT 2) hp hl hw
  have hh := headof_ok 2
  generalize parsedP l p (ofT 2) = R at *
  generalize ofT 2 = T at *
  refine Ct_intro Try.func57 rfl rfl rfl rfl rfl (fun E hn hb => ?_)
  repeat (first | refine W_seq ?_ | refine W_region ?_ | refine W_block ?_ | refine W_skip ?_ | refine W_ret ?_ | refine W_exit ?_ | refine WL_nil ?_ | refine N_then ?_ | refine N_then_exit ?_ | refine N_then_ret ?_ | refine N_block ?_ | refine N_block_ret ?_ | refine N_block_exit ?_ | refine N_block_pass rfl ?_ | refine W_scope ?_ | refine W_label ?_ | refine N_scope ?_ | refine N_scope_ret ?_ | refine N_scope_exit ?_ | refine sp true rfl rfl (by rw [hn]; rfl) (by first | trivial | (simp; done) | (simp; omega) | (simp at *; done) | (simp at *; omega)) ?_ | refine sg true rfl rfl rfl (by rw [hn]; rfl) (by intro hG; first | trivial | (simp; done) | (simp; omega) | (simp at *; done) | (simp at *; omega)) ?_)
  refine s_allocN rfl rfl rfl (by rw [hn]; rfl) rfl zok30 ?_
  repeat (first | refine W_seq ?_ | refine W_region ?_ | refine W_block ?_ | refine W_skip ?_ | refine W_ret ?_ | refine W_exit ?_ | refine WL_nil ?_ | refine N_then ?_ | refine N_then_exit ?_ | refine N_then_ret ?_ | refine N_block ?_ | refine N_block_ret ?_ | refine N_block_exit ?_ | refine N_block_pass rfl ?_ | refine W_scope ?_ | refine W_label ?_ | refine N_scope ?_ | refine N_scope_ret ?_ | refine N_scope_exit ?_ | refine sp true rfl rfl (by rw [hn]; rfl) (by first | trivial | (simp; done) | (simp; omega) | (simp at *; done) | (simp at *; omega)) ?_ | refine sg true rfl rfl rfl (by rw [hn]; rfl) (by intro hG; first | trivial | (simp; done) | (simp; omega) | (simp at *; done) | (simp at *; omega)) ?_)
  refine s_call0 (hh) rfl rfl rfl (by rw [hn]; rfl) rfl rfl (by first | trivial | (simp; done) | (simp; omega) | (simp at *; done) | (simp at *; omega)) rfl rfl rfl ?_
  repeat (first | refine W_seq ?_ | refine W_region ?_ | refine W_block ?_ | refine W_skip ?_ | refine W_ret ?_ | refine W_exit ?_ | refine WL_nil ?_ | refine N_then ?_ | refine N_then_exit ?_ | refine N_then_ret ?_ | refine N_block ?_ | refine N_block_ret ?_ | refine N_block_exit ?_ | refine N_block_pass rfl ?_ | refine W_scope ?_ | refine W_label ?_ | refine N_scope ?_ | refine N_scope_ret ?_ | refine N_scope_exit ?_ | refine sp true rfl rfl (by rw [hn]; rfl) (by first | trivial | (simp; done) | (simp; omega) | (simp at *; done) | (simp at *; omega)) ?_ | refine sg true rfl rfl rfl (by rw [hn]; rfl) (by intro hG; first | trivial | (simp; done) | (simp; omega) | (simp at *; done) | (simp at *; omega)) ?_)
  refine s_call [0] hk rfl rfl (by rw [hn]; rfl) rfl rfl (by trivial) ⟨rfl, rfl, (by simp [ordL]), rfl⟩ ?_
  repeat (first | refine W_seq ?_ | refine W_region ?_ | refine W_block ?_ | refine W_skip ?_ | refine W_ret ?_ | refine W_exit ?_ | refine WL_nil ?_ | refine N_then ?_ | refine N_then_exit ?_ | refine N_then_ret ?_ | refine N_block ?_ | refine N_block_ret ?_ | refine N_block_exit ?_ | refine N_block_pass rfl ?_ | refine W_scope ?_ | refine W_label ?_ | refine N_scope ?_ | refine N_scope_ret ?_ | refine N_scope_exit ?_ | refine sp true rfl rfl (by rw [hn]; rfl) (by first | trivial | (simp; done) | (simp; omega) | (simp at *; done) | (simp at *; omega)) ?_ | refine sg true rfl rfl rfl (by rw [hn]; rfl) (by intro hG; first | trivial | (simp; done) | (simp; omega) | (simp at *; done) | (simp at *; omega)) ?_)
  refine s_storeN rfl rfl rfl rfl rfl (by first | trivial | (simp; done) | (simp; omega) | (simp at *; done) | (simp at *; omega)) rfl rfl rfl (by rw [cellsOf30]; rfl) (by rw [info30]; rfl) rfl rfl ?_
  repeat (first | refine W_seq ?_ | refine W_region ?_ | refine W_block ?_ | refine W_skip ?_ | refine W_ret ?_ | refine W_exit ?_ | refine WL_nil ?_ | refine N_then ?_ | refine N_then_exit ?_ | refine N_then_ret ?_ | refine N_block ?_ | refine N_block_ret ?_ | refine N_block_exit ?_ | refine N_block_pass rfl ?_ | refine W_scope ?_ | refine W_label ?_ | refine N_scope ?_ | refine N_scope_ret ?_ | refine N_scope_exit ?_ | refine sp true rfl rfl (by rw [hn]; rfl) (by first | trivial | (simp; done) | (simp; omega) | (simp at *; done) | (simp at *; omega)) ?_ | refine sg true rfl rfl rfl (by rw [hn]; rfl) (by intro hG; first | trivial | (simp; done) | (simp; omega) | (simp at *; done) | (simp at *; omega)) ?_)
  exact N_retN [] rfl (by first | trivial | (simp; done) | (simp; omega) | (simp at *; done) | (simp at *; omega)) ⟨rfl, by first | trivial | exact ⟨rfl, rfl⟩, by first | trivial | exact rfl | exact ⟨rfl, rfl⟩, rfl⟩ hb rfl (by first | trivial | (simp; done) | (simp [ordL]; done))
theorem parsedP_stay (l : List Int) (p : Nat) (t : TagP) (h : ¬ (parsedP l p t).1.2.2 = 0) : (parsedP l p t).2 = p := by
  unfold parsedP at h ⊢
  split
  · rename_i h1
    rw [if_pos h1] at h
    split
    · rename_i h2
      rw [if_pos h2] at h
      exact absurd h2 h
    · rfl
  · rfl
theorem parse_wf {m : List Int} (hw : WfB m) : WfB (parseN m).2.1 := by
  unfold parseN
  split
  · exact fun x h => by simp at h
  · split
    · exact fun x h => by simp at h
    · split
      · exact fun x h => by simp at h
      · split
        · exact wf_trim (tc_wf m)
        · exact wf_trim hw
theorem parsedP_num (l : List Int) (p : Nat) (t : TagP) (hw : WfB l) : (parsedP l p t).1.2.1.length ≤ l.length ∧ WfB (parsedP l p t).1.2.1 := by
  obtain ⟨m1, m2⟩ := openP_mem l p t
  have h1 := (parse_right (openP l p t).1).1
  have h2 : WfB (openP l p t).1 := fun x h => hw x (m2 x h)
  have h3 := parse_wf h2
  unfold parsedP
  split
  · split
    · exact ⟨by dsimp only; omega, h3⟩
    · exact ⟨by dsimp only; omega, h3⟩
  · exact ⟨by simp, fun x h => by simp at h⟩
/-- The next number, as an int: it and the error, the place behind. -/
def readIntP (l : List Int) (p : Nat) (n : Int) : (Int × Int) × Nat :=
  if rightT (ofT n) = true then
    if (parsedP l p (ofT n)).1.2.2 = 0 then
      match intV (madeB (parsedP l p (ofT n)).1.1 (parsedP l p (ofT n)).1.2.1) (trimL (parsedP l p (ofT n)).1.2.1) with
      | some k => ((k, 0), (parsedP l p (ofT n)).2)
      | none => ((0, 2), p)
    else ((0, (parsedP l p (ofT n)).1.2.2), p)
  else ((0, 1), p)
theorem readInt_ok (l : List Int) (p : Nat) (n : Int) (hp : p ≤ l.length) (hl : l.length ≤ 1000) (hw : WfB l) : Ct Try.prog 61 [.c (.ptr 0 0), lv (.int .i64 n)] [curB l p] (.tup [lv (.int .i64 (readIntP l p n).1.1), lv (.int .i64 (readIntP l p n).1.2)]) [curB l (readIntP l p n).2] [] := by
  have hk := parsed_ok l p (ofT n) hp hl hw
  have hh := headof_ok n
  have hrt := headright_ok (ofT n)
  have hst := parsedP_stay l p (ofT n)
  have hle := parsedP_le l p (ofT n) hp
  obtain ⟨hnl, hnw⟩ := parsedP_num l p (ofT n) hw
  generalize hRR : readIntP l p n = R
  unfold readIntP at hRR
  generalize parsedP l p (ofT n) = N at *
  have hbk := back_ok l N.2 p hle.1 (by omega)
  have hin := int_ok N.1.1 N.1.2.1 (by omega) hnw
  generalize rightT (ofT n) = r at *
  generalize ofT n = T at *
  generalize intV (madeB N.1.1 N.1.2.1) (trimL N.1.2.1) = V at *
  refine Ct_intro Try.func61 rfl rfl rfl rfl rfl (fun E hn hb => ?_)
  repeat (first | refine W_seq ?_ | refine W_region ?_ | refine W_block ?_ | refine W_skip ?_ | refine W_ret ?_ | refine W_exit ?_ | refine WL_nil ?_ | refine N_then ?_ | refine N_then_exit ?_ | refine N_then_ret ?_ | refine N_block ?_ | refine N_block_ret ?_ | refine N_block_exit ?_ | refine N_block_pass rfl ?_ | refine W_scope ?_ | refine W_label ?_ | refine N_scope ?_ | refine N_scope_ret ?_ | refine N_scope_exit ?_ | refine sp true rfl rfl (by rw [hn]; rfl) (by first | trivial | (simp; done) | (simp; omega) | (simp at *; done) | (simp at *; omega)) ?_ | refine sg true rfl rfl rfl (by rw [hn]; rfl) (by intro hG; first | trivial | (simp; done) | (simp; omega) | (simp at *; done) | (simp at *; omega)) ?_)
  refine s_call0 (hh) rfl rfl rfl (by rw [hn]; rfl) rfl rfl (by first | trivial | (simp; done) | (simp; omega) | (simp at *; done) | (simp at *; omega)) rfl rfl rfl ?_
  repeat (first | refine W_seq ?_ | refine W_region ?_ | refine W_block ?_ | refine W_skip ?_ | refine W_ret ?_ | refine W_exit ?_ | refine WL_nil ?_ | refine N_then ?_ | refine N_then_exit ?_ | refine N_then_ret ?_ | refine N_block ?_ | refine N_block_ret ?_ | refine N_block_exit ?_ | refine N_block_pass rfl ?_ | refine W_scope ?_ | refine W_label ?_ | refine N_scope ?_ | refine N_scope_ret ?_ | refine N_scope_exit ?_ | refine sp true rfl rfl (by rw [hn]; rfl) (by first | trivial | (simp; done) | (simp; omega) | (simp at *; done) | (simp at *; omega)) ?_ | refine sg true rfl rfl rfl (by rw [hn]; rfl) (by intro hG; first | trivial | (simp; done) | (simp; omega) | (simp at *; done) | (simp at *; omega)) ?_)
  refine s_allocN rfl rfl rfl (by rw [hn]; rfl) rfl zok119 ?_
  repeat (first | refine W_seq ?_ | refine W_region ?_ | refine W_block ?_ | refine W_skip ?_ | refine W_ret ?_ | refine W_exit ?_ | refine WL_nil ?_ | refine N_then ?_ | refine N_then_exit ?_ | refine N_then_ret ?_ | refine N_block ?_ | refine N_block_ret ?_ | refine N_block_exit ?_ | refine N_block_pass rfl ?_ | refine W_scope ?_ | refine W_label ?_ | refine N_scope ?_ | refine N_scope_ret ?_ | refine N_scope_exit ?_ | refine sp true rfl rfl (by rw [hn]; rfl) (by first | trivial | (simp; done) | (simp; omega) | (simp at *; done) | (simp at *; omega)) ?_ | refine sg true rfl rfl rfl (by rw [hn]; rfl) (by intro hG; first | trivial | (simp; done) | (simp; omega) | (simp at *; done) | (simp at *; omega)) ?_)
  refine s_storeN rfl rfl rfl rfl rfl (by first | trivial | (simp; done) | (simp; omega) | (simp at *; done) | (simp at *; omega)) rfl rfl rfl (by rw [cellsOf119]; rfl) (by rw [info119]; rfl) rfl rfl ?_
  repeat (first | refine W_seq ?_ | refine W_region ?_ | refine W_block ?_ | refine W_skip ?_ | refine W_ret ?_ | refine W_exit ?_ | refine WL_nil ?_ | refine N_then ?_ | refine N_then_exit ?_ | refine N_then_ret ?_ | refine N_block ?_ | refine N_block_ret ?_ | refine N_block_exit ?_ | refine N_block_pass rfl ?_ | refine W_scope ?_ | refine W_label ?_ | refine N_scope ?_ | refine N_scope_ret ?_ | refine N_scope_exit ?_ | refine sp true rfl rfl (by rw [hn]; rfl) (by first | trivial | (simp; done) | (simp; omega) | (simp at *; done) | (simp at *; omega)) ?_ | refine sg true rfl rfl rfl (by rw [hn]; rfl) (by intro hG; first | trivial | (simp; done) | (simp; omega) | (simp at *; done) | (simp at *; omega)) ?_)
  refine s_call0 (hrt) rfl rfl rfl (by rw [hn]; rfl) rfl rfl (by first | trivial | (simp; done) | (simp; omega) | (simp at *; done) | (simp at *; omega)) rfl rfl rfl ?_
  repeat (first | refine W_seq ?_ | refine W_region ?_ | refine W_block ?_ | refine W_skip ?_ | refine W_ret ?_ | refine W_exit ?_ | refine WL_nil ?_ | refine N_then ?_ | refine N_then_exit ?_ | refine N_then_ret ?_ | refine N_block ?_ | refine N_block_ret ?_ | refine N_block_exit ?_ | refine N_block_pass rfl ?_ | refine W_scope ?_ | refine W_label ?_ | refine N_scope ?_ | refine N_scope_ret ?_ | refine N_scope_exit ?_ | refine sp true rfl rfl (by rw [hn]; rfl) (by first | trivial | (simp; done) | (simp; omega) | (simp at *; done) | (simp at *; omega)) ?_ | refine sg true rfl rfl rfl (by rw [hn]; rfl) (by intro hG; first | trivial | (simp; done) | (simp; omega) | (simp at *; done) | (simp at *; omega)) ?_)
  refine W_cond rfl (by simp) (fun h1 => ?_) (fun h1 => ?_)
  · have h1' : ¬ r = true := by simpa using h1
    rw [if_neg h1'] at hRR
    subst hRR
    repeat (first | refine W_seq ?_ | refine W_region ?_ | refine W_block ?_ | refine W_skip ?_ | refine W_ret ?_ | refine W_exit ?_ | refine WL_nil ?_ | refine N_then ?_ | refine N_then_exit ?_ | refine N_then_ret ?_ | refine N_block ?_ | refine N_block_ret ?_ | refine N_block_exit ?_ | refine N_block_pass rfl ?_ | refine W_scope ?_ | refine W_label ?_ | refine N_scope ?_ | refine N_scope_ret ?_ | refine N_scope_exit ?_ | refine sp true rfl rfl (by rw [hn]; rfl) (by first | trivial | (simp; done) | (simp; omega) | (simp at *; done) | (simp at *; omega)) ?_ | refine sg true rfl rfl rfl (by rw [hn]; rfl) (by intro hG; first | trivial | (simp; done) | (simp; omega) | (simp at *; done) | (simp at *; omega)) ?_)
    exact N_retN [] rfl (by first | trivial | (simp; done) | (simp; omega) | (simp at *; done) | (simp at *; omega)) ⟨rfl, by first | trivial | exact ⟨rfl, rfl⟩, by first | trivial | exact rfl | exact ⟨rfl, rfl⟩, rfl⟩ hb rfl (by first | trivial | (simp; done) | (simp [ordL]; done))
  have h1' : r = true := by simpa using h1
  rw [if_pos h1'] at hRR
  repeat (first | refine W_seq ?_ | refine W_region ?_ | refine W_block ?_ | refine W_skip ?_ | refine W_ret ?_ | refine W_exit ?_ | refine WL_nil ?_ | refine N_then ?_ | refine N_then_exit ?_ | refine N_then_ret ?_ | refine N_block ?_ | refine N_block_ret ?_ | refine N_block_exit ?_ | refine N_block_pass rfl ?_ | refine W_scope ?_ | refine W_label ?_ | refine N_scope ?_ | refine N_scope_ret ?_ | refine N_scope_exit ?_ | refine sp true rfl rfl (by rw [hn]; rfl) (by first | trivial | (simp; done) | (simp; omega) | (simp at *; done) | (simp at *; omega)) ?_ | refine sg true rfl rfl rfl (by rw [hn]; rfl) (by intro hG; first | trivial | (simp; done) | (simp; omega) | (simp at *; done) | (simp at *; omega)) ?_)
  refine WL_q (opq_of (opy_callL (at_ok l p) rfl rfl rfl (by first | trivial | (simp; done) | (simp; omega) | (simp at *; done) | (simp at *; omega)) ⟨.inr (.inr ⟨0, 0, _, _, rfl, rfl, rfl, rfl⟩), trivial⟩ rfl) rfl) (by rw [hn]; rfl) ?_
  repeat (first | refine W_seq ?_ | refine W_region ?_ | refine W_block ?_ | refine W_skip ?_ | refine W_ret ?_ | refine W_exit ?_ | refine WL_nil ?_ | refine N_then ?_ | refine N_then_exit ?_ | refine N_then_ret ?_ | refine N_block ?_ | refine N_block_ret ?_ | refine N_block_exit ?_ | refine N_block_pass rfl ?_ | refine W_scope ?_ | refine W_label ?_ | refine N_scope ?_ | refine N_scope_ret ?_ | refine N_scope_exit ?_ | refine sp true rfl rfl (by rw [hn]; rfl) (by first | trivial | (simp; done) | (simp; omega) | (simp at *; done) | (simp at *; omega)) ?_ | refine sg true rfl rfl rfl (by rw [hn]; rfl) (by intro hG; first | trivial | (simp; done) | (simp; omega) | (simp at *; done) | (simp at *; omega)) ?_)
  refine s_call [0] hk rfl rfl (by rw [hn]; rfl) rfl rfl (by trivial) ⟨rfl, rfl, (by simp [ordL]), rfl⟩ ?_
  repeat (first | refine W_seq ?_ | refine W_region ?_ | refine W_block ?_ | refine W_skip ?_ | refine W_ret ?_ | refine W_exit ?_ | refine WL_nil ?_ | refine N_then ?_ | refine N_then_exit ?_ | refine N_then_ret ?_ | refine N_block ?_ | refine N_block_ret ?_ | refine N_block_exit ?_ | refine N_block_pass rfl ?_ | refine W_scope ?_ | refine W_label ?_ | refine N_scope ?_ | refine N_scope_ret ?_ | refine N_scope_exit ?_ | refine sp true rfl rfl (by rw [hn]; rfl) (by first | trivial | (simp; done) | (simp; omega) | (simp at *; done) | (simp at *; omega)) ?_ | refine sg true rfl rfl rfl (by rw [hn]; rfl) (by intro hG; first | trivial | (simp; done) | (simp; omega) | (simp at *; done) | (simp at *; omega)) ?_)
  refine s_allocN rfl rfl rfl (by rw [hn]; rfl) rfl zok30 ?_
  repeat (first | refine W_seq ?_ | refine W_region ?_ | refine W_block ?_ | refine W_skip ?_ | refine W_ret ?_ | refine W_exit ?_ | refine WL_nil ?_ | refine N_then ?_ | refine N_then_exit ?_ | refine N_then_ret ?_ | refine N_block ?_ | refine N_block_ret ?_ | refine N_block_exit ?_ | refine N_block_pass rfl ?_ | refine W_scope ?_ | refine W_label ?_ | refine N_scope ?_ | refine N_scope_ret ?_ | refine N_scope_exit ?_ | refine sp true rfl rfl (by rw [hn]; rfl) (by first | trivial | (simp; done) | (simp; omega) | (simp at *; done) | (simp at *; omega)) ?_ | refine sg true rfl rfl rfl (by rw [hn]; rfl) (by intro hG; first | trivial | (simp; done) | (simp; omega) | (simp at *; done) | (simp at *; omega)) ?_)
  refine s_storeN rfl rfl rfl rfl rfl (by first | trivial | (simp; done) | (simp; omega) | (simp at *; done) | (simp at *; omega)) rfl rfl rfl (by rw [cellsOf30]; rfl) (by rw [info30]; rfl) rfl rfl ?_
  repeat (first | refine W_seq ?_ | refine W_region ?_ | refine W_block ?_ | refine W_skip ?_ | refine W_ret ?_ | refine W_exit ?_ | refine WL_nil ?_ | refine N_then ?_ | refine N_then_exit ?_ | refine N_then_ret ?_ | refine N_block ?_ | refine N_block_ret ?_ | refine N_block_exit ?_ | refine N_block_pass rfl ?_ | refine W_scope ?_ | refine W_label ?_ | refine N_scope ?_ | refine N_scope_ret ?_ | refine N_scope_exit ?_ | refine sp true rfl rfl (by rw [hn]; rfl) (by first | trivial | (simp; done) | (simp; omega) | (simp at *; done) | (simp at *; omega)) ?_ | refine sg true rfl rfl rfl (by rw [hn]; rfl) (by intro hG; first | trivial | (simp; done) | (simp; omega) | (simp at *; done) | (simp at *; omega)) ?_)
  refine W_cond rfl (by simp) (fun h2 => ?_) (fun h2 => ?_)
  · have h2' : ¬ N.1.2.2 = 0 := by simpa using h2
    rw [if_neg h2'] at hRR
    subst hRR
    rw [hst h2']
    repeat (first | refine W_seq ?_ | refine W_region ?_ | refine W_block ?_ | refine W_skip ?_ | refine W_ret ?_ | refine W_exit ?_ | refine WL_nil ?_ | refine N_then ?_ | refine N_then_exit ?_ | refine N_then_ret ?_ | refine N_block ?_ | refine N_block_ret ?_ | refine N_block_exit ?_ | refine N_block_pass rfl ?_ | refine W_scope ?_ | refine W_label ?_ | refine N_scope ?_ | refine N_scope_ret ?_ | refine N_scope_exit ?_ | refine sp true rfl rfl (by rw [hn]; rfl) (by first | trivial | (simp; done) | (simp; omega) | (simp at *; done) | (simp at *; omega)) ?_ | refine sg true rfl rfl rfl (by rw [hn]; rfl) (by intro hG; first | trivial | (simp; done) | (simp; omega) | (simp at *; done) | (simp at *; omega)) ?_)
    exact N_retN [] rfl (by first | trivial | (simp; done) | (simp; omega) | (simp at *; done) | (simp at *; omega)) ⟨rfl, by first | trivial | exact ⟨rfl, rfl⟩, by first | trivial | exact rfl | exact ⟨rfl, rfl⟩, rfl⟩ hb rfl (by first | trivial | (simp; done) | (simp [ordL]; done))
  have h2' : N.1.2.2 = 0 := by simpa using h2
  rw [if_pos h2'] at hRR
  repeat (first | refine W_seq ?_ | refine W_region ?_ | refine W_block ?_ | refine W_skip ?_ | refine W_ret ?_ | refine W_exit ?_ | refine WL_nil ?_ | refine N_then ?_ | refine N_then_exit ?_ | refine N_then_ret ?_ | refine N_block ?_ | refine N_block_ret ?_ | refine N_block_exit ?_ | refine N_block_pass rfl ?_ | refine W_scope ?_ | refine W_label ?_ | refine N_scope ?_ | refine N_scope_ret ?_ | refine N_scope_exit ?_ | refine sp true rfl rfl (by rw [hn]; rfl) (by first | trivial | (simp; done) | (simp; omega) | (simp at *; done) | (simp at *; omega)) ?_ | refine sg true rfl rfl rfl (by rw [hn]; rfl) (by intro hG; first | trivial | (simp; done) | (simp; omega) | (simp at *; done) | (simp at *; omega)) ?_)
  refine s_call0 (hin) rfl rfl rfl (by rw [hn]; rfl) rfl rfl (by first | trivial | (simp; done) | (simp; omega) | (simp at *; done) | (simp at *; omega)) rfl rfl rfl ?_
  repeat (first | refine W_seq ?_ | refine W_region ?_ | refine W_block ?_ | refine W_skip ?_ | refine W_ret ?_ | refine W_exit ?_ | refine WL_nil ?_ | refine N_then ?_ | refine N_then_exit ?_ | refine N_then_ret ?_ | refine N_block ?_ | refine N_block_ret ?_ | refine N_block_exit ?_ | refine N_block_pass rfl ?_ | refine W_scope ?_ | refine W_label ?_ | refine N_scope ?_ | refine N_scope_ret ?_ | refine N_scope_exit ?_ | refine sp true rfl rfl (by rw [hn]; rfl) (by first | trivial | (simp; done) | (simp; omega) | (simp at *; done) | (simp at *; omega)) ?_ | refine sg true rfl rfl rfl (by rw [hn]; rfl) (by intro hG; first | trivial | (simp; done) | (simp; omega) | (simp at *; done) | (simp at *; omega)) ?_)
  cases V with
  | none =>
    dsimp only at hRR
    subst hRR
    refine W_cond rfl (by simp) (fun h3 => ?_) (fun h3 => ?_)
    · repeat (first | refine W_seq ?_ | refine W_region ?_ | refine W_block ?_ | refine W_skip ?_ | refine W_ret ?_ | refine W_exit ?_ | refine WL_nil ?_ | refine N_then ?_ | refine N_then_exit ?_ | refine N_then_ret ?_ | refine N_block ?_ | refine N_block_ret ?_ | refine N_block_exit ?_ | refine N_block_pass rfl ?_ | refine W_scope ?_ | refine W_label ?_ | refine N_scope ?_ | refine N_scope_ret ?_ | refine N_scope_exit ?_ | refine sp true rfl rfl (by rw [hn]; rfl) (by first | trivial | (simp; done) | (simp; omega) | (simp at *; done) | (simp at *; omega)) ?_ | refine sg true rfl rfl rfl (by rw [hn]; rfl) (by intro hG; first | trivial | (simp; done) | (simp; omega) | (simp at *; done) | (simp at *; omega)) ?_)
      refine s_call [0] hbk rfl rfl (by rw [hn]; rfl) rfl rfl (by trivial) ⟨rfl, rfl, (by simp [ordL]), rfl⟩ ?_
      repeat (first | refine W_seq ?_ | refine W_region ?_ | refine W_block ?_ | refine W_skip ?_ | refine W_ret ?_ | refine W_exit ?_ | refine WL_nil ?_ | refine N_then ?_ | refine N_then_exit ?_ | refine N_then_ret ?_ | refine N_block ?_ | refine N_block_ret ?_ | refine N_block_exit ?_ | refine N_block_pass rfl ?_ | refine W_scope ?_ | refine W_label ?_ | refine N_scope ?_ | refine N_scope_ret ?_ | refine N_scope_exit ?_ | refine sp true rfl rfl (by rw [hn]; rfl) (by first | trivial | (simp; done) | (simp; omega) | (simp at *; done) | (simp at *; omega)) ?_ | refine sg true rfl rfl rfl (by rw [hn]; rfl) (by intro hG; first | trivial | (simp; done) | (simp; omega) | (simp at *; done) | (simp at *; omega)) ?_)
      exact N_retN [] rfl (by first | trivial | (simp; done) | (simp; omega) | (simp at *; done) | (simp at *; omega)) ⟨rfl, by first | trivial | exact ⟨rfl, rfl⟩, by first | trivial | exact rfl | exact ⟨rfl, rfl⟩, rfl⟩ hb rfl (by first | trivial | (simp; done) | (simp [ordL]; done))
    · simp at h3
  | some k =>
    dsimp only at hRR
    subst hRR
    refine W_cond rfl (by simp) (fun h3 => ?_) (fun h3 => ?_)
    · simp at h3
    · repeat (first | refine W_seq ?_ | refine W_region ?_ | refine W_block ?_ | refine W_skip ?_ | refine W_ret ?_ | refine W_exit ?_ | refine WL_nil ?_ | refine N_then ?_ | refine N_then_exit ?_ | refine N_then_ret ?_ | refine N_block ?_ | refine N_block_ret ?_ | refine N_block_exit ?_ | refine N_block_pass rfl ?_ | refine W_scope ?_ | refine W_label ?_ | refine N_scope ?_ | refine N_scope_ret ?_ | refine N_scope_exit ?_ | refine sp true rfl rfl (by rw [hn]; rfl) (by first | trivial | (simp; done) | (simp; omega) | (simp at *; done) | (simp at *; omega)) ?_ | refine sg true rfl rfl rfl (by rw [hn]; rfl) (by intro hG; first | trivial | (simp; done) | (simp; omega) | (simp at *; done) | (simp at *; omega)) ?_)
      exact N_retN [] rfl (by first | trivial | (simp; done) | (simp; omega) | (simp at *; done) | (simp at *; omega)) ⟨rfl, by first | trivial | exact ⟨rfl, rfl⟩, by first | trivial | exact rfl | exact ⟨rfl, rfl⟩, rfl⟩ hb rfl (by first | trivial | (simp; done) | (simp [ordL]; done))
end Go.Proofs.Ytppmfjopokkhmaa

/-
  Chapters 02 and 03, the document's answer: contents and numbers that are read. The conditions: rows of at most a thousand bytes.
-/
import Derived.Test.YtppmfjopokkhmaaC9
namespace Go.Proofs.Ytppmfjopokkhmaa
set_option linter.unusedSimpArgs false
set_option linter.unusedVariables false
open Go.Sx

set_option maxRecDepth 10000

theorem readP_eq (b : List Int) (p : Nat) : readP b p = if (tagP b p).2.2 = 0 then
    if (lenP b (tagP b p).2.1).2.2 = 0 then (((tagP b p).1, (lenP b (tagP b p).2.1).1), (lenP b (tagP b p).2.1).2.1, 0) else ((tag0, 0), p, (lenP b (tagP b p).2.1).2.2)
    else ((tag0, 0), p, (tagP b p).2.2) := by
  unfold readP rawF keepP
  by_cases h1 : (tagP b p).2.2 = 0
  · rw [if_pos h1, if_pos h1]
    by_cases h2 : (lenP b (tagP b p).2.1).2.2 = 0
    · rw [if_pos h2, if_pos h2, h2]
    · rw [if_neg h2, if_neg h2]
  · rw [if_neg h1, if_neg h1, if_neg h1]
theorem openP_eq (b : List Int) (p : Nat) (t : TagP) : openP b p t = if (readP b p).2.2 = 0 then
    if (readP b p).1.1 = t then
      if (b.length : Int) - ((readP b p).2.1 : Int) < (readP b p).1.2 then ([], p, 3)
      else ((b.drop (readP b p).2.1).take (readP b p).1.2.toNat, (readP b p).2.1 + (readP b p).1.2.toNat, 0)
    else ([], p, 4)
    else ([], p, (readP b p).2.2) := by
  unfold openP rawO keepP
  by_cases h1 : (readP b p).2.2 = 0
  · rw [if_pos h1, if_pos h1]
    repeat' split
    all_goals first | rfl | simp_all
  · rw [if_neg h1, if_neg h1, if_neg h1]
theorem parse_err (m : List Int) (h : ¬ (parseN m).2.2 = 0) : parseN m = (false, [], (parseN m).2.2) := by
  unfold parseN at h ⊢
  by_cases h1 : m = []
  · rw [if_pos h1]
  · rw [if_neg h1] at h ⊢
    by_cases h2 : (64 : Int) < m.length
    · rw [if_pos h2]
    · rw [if_neg h2] at h ⊢
      by_cases h3 : redB m = true
      · rw [if_pos h3]
      · rw [if_neg h3] at h
        exfalso
        split at h <;> exact h rfl
abbrev frR (r : (TagP × Int) × Nat × Int) : Av := .tup [tagA r.1.1, lv (.int .i64 r.1.2), lv (.int .i64 (r.2.1 : Int)), lv (.int .i64 r.2.2)]
theorem refread_ok (l : List Int) (p : Nat) (hp : p ≤ l.length) (hl : l.length ≤ 1000000) (hw : WfB l) : Ct Try.prog 109 [B8 l, lv (.int .i64 (p : Int))] [] (frR (readP l p)) [] [] := by
  have hTT := readP_eq l p
  have ht := reftagr_ok l p hp hl hw
  have hnl := reflen_ok l (tagP l p).2.1 (tagP_le l p hp).2 hl hw
  generalize readP l p = R at *
  generalize tagP l p = T at *
  generalize lenP l T.2.1 = N at *
  refine Ct_intro Try.func109 rfl rfl rfl rfl rfl (fun E hn hb => ?_)
  repeat (first | refine W_seq ?_ | refine W_region ?_ | refine W_block ?_ | refine W_skip ?_ | refine W_ret ?_ | refine W_exit ?_ | refine WL_nil ?_ | refine N_then ?_ | refine N_then_exit ?_ | refine N_then_ret ?_ | refine N_block ?_ | refine N_block_ret ?_ | refine N_block_exit ?_ | refine N_block_pass rfl ?_ | refine W_scope ?_ | refine W_label ?_ | refine N_scope ?_ | refine N_scope_ret ?_ | refine N_scope_exit ?_ | refine sp true rfl rfl (by rw [hn]; rfl) (by first | trivial | (simp; done) | (simp; omega) | (simp at *; done) | (simp at *; omega)) ?_ | refine sg true rfl rfl rfl (by rw [hn]; rfl) (by intro hG; first | trivial | (simp; done) | (simp; omega) | (simp at *; done) | (simp at *; omega)) ?_)
  refine s_allocN rfl rfl rfl (by rw [hn]; rfl) rfl zok86 ?_
  repeat (first | refine W_seq ?_ | refine W_region ?_ | refine W_block ?_ | refine W_skip ?_ | refine W_ret ?_ | refine W_exit ?_ | refine WL_nil ?_ | refine N_then ?_ | refine N_then_exit ?_ | refine N_then_ret ?_ | refine N_block ?_ | refine N_block_ret ?_ | refine N_block_exit ?_ | refine N_block_pass rfl ?_ | refine W_scope ?_ | refine W_label ?_ | refine N_scope ?_ | refine N_scope_ret ?_ | refine N_scope_exit ?_ | refine sp true rfl rfl (by rw [hn]; rfl) (by first | trivial | (simp; done) | (simp; omega) | (simp at *; done) | (simp at *; omega)) ?_ | refine sg true rfl rfl rfl (by rw [hn]; rfl) (by intro hG; first | trivial | (simp; done) | (simp; omega) | (simp at *; done) | (simp at *; omega)) ?_)
  refine s_call0 (ht) rfl rfl rfl (by rw [hn]; rfl) rfl rfl (by first | trivial | (simp; done) | (simp; omega) | (simp at *; done) | (simp at *; omega)) rfl rfl rfl ?_
  repeat (first | refine W_seq ?_ | refine W_region ?_ | refine W_block ?_ | refine W_skip ?_ | refine W_ret ?_ | refine W_exit ?_ | refine WL_nil ?_ | refine N_then ?_ | refine N_then_exit ?_ | refine N_then_ret ?_ | refine N_block ?_ | refine N_block_ret ?_ | refine N_block_exit ?_ | refine N_block_pass rfl ?_ | refine W_scope ?_ | refine W_label ?_ | refine N_scope ?_ | refine N_scope_ret ?_ | refine N_scope_exit ?_ | refine sp true rfl rfl (by rw [hn]; rfl) (by first | trivial | (simp; done) | (simp; omega) | (simp at *; done) | (simp at *; omega)) ?_ | refine sg true rfl rfl rfl (by rw [hn]; rfl) (by intro hG; first | trivial | (simp; done) | (simp; omega) | (simp at *; done) | (simp at *; omega)) ?_)
  refine s_allocN rfl rfl rfl (by rw [hn]; rfl) rfl zok86 ?_
  repeat (first | refine W_seq ?_ | refine W_region ?_ | refine W_block ?_ | refine W_skip ?_ | refine W_ret ?_ | refine W_exit ?_ | refine WL_nil ?_ | refine N_then ?_ | refine N_then_exit ?_ | refine N_then_ret ?_ | refine N_block ?_ | refine N_block_ret ?_ | refine N_block_exit ?_ | refine N_block_pass rfl ?_ | refine W_scope ?_ | refine W_label ?_ | refine N_scope ?_ | refine N_scope_ret ?_ | refine N_scope_exit ?_ | refine sp true rfl rfl (by rw [hn]; rfl) (by first | trivial | (simp; done) | (simp; omega) | (simp at *; done) | (simp at *; omega)) ?_ | refine sg true rfl rfl rfl (by rw [hn]; rfl) (by intro hG; first | trivial | (simp; done) | (simp; omega) | (simp at *; done) | (simp at *; omega)) ?_)
  refine s_storeN rfl rfl rfl rfl rfl (by first | trivial | (simp; done) | (simp; omega) | (simp at *; done) | (simp at *; omega)) rfl rfl rfl (by rw [cellsOf86]; rfl) (by rw [info86]; rfl) rfl rfl ?_
  repeat (first | refine W_seq ?_ | refine W_region ?_ | refine W_block ?_ | refine W_skip ?_ | refine W_ret ?_ | refine W_exit ?_ | refine WL_nil ?_ | refine N_then ?_ | refine N_then_exit ?_ | refine N_then_ret ?_ | refine N_block ?_ | refine N_block_ret ?_ | refine N_block_exit ?_ | refine N_block_pass rfl ?_ | refine W_scope ?_ | refine W_label ?_ | refine N_scope ?_ | refine N_scope_ret ?_ | refine N_scope_exit ?_ | refine sp true rfl rfl (by rw [hn]; rfl) (by first | trivial | (simp; done) | (simp; omega) | (simp at *; done) | (simp at *; omega)) ?_ | refine sg true rfl rfl rfl (by rw [hn]; rfl) (by intro hG; first | trivial | (simp; done) | (simp; omega) | (simp at *; done) | (simp at *; omega)) ?_)
  refine W_cond rfl (by simp) (fun h1 => ?_) (fun h1 => ?_)
  · have h1' : ¬ T.2.2 = 0 := by simpa using h1
    rw [if_neg h1'] at hTT
    subst hTT
    repeat (first | refine W_seq ?_ | refine W_region ?_ | refine W_block ?_ | refine W_skip ?_ | refine W_ret ?_ | refine W_exit ?_ | refine WL_nil ?_ | refine N_then ?_ | refine N_then_exit ?_ | refine N_then_ret ?_ | refine N_block ?_ | refine N_block_ret ?_ | refine N_block_exit ?_ | refine N_block_pass rfl ?_ | refine W_scope ?_ | refine W_label ?_ | refine N_scope ?_ | refine N_scope_ret ?_ | refine N_scope_exit ?_ | refine sp true rfl rfl (by rw [hn]; rfl) (by first | trivial | (simp; done) | (simp; omega) | (simp at *; done) | (simp at *; omega)) ?_ | refine sg true rfl rfl rfl (by rw [hn]; rfl) (by intro hG; first | trivial | (simp; done) | (simp; omega) | (simp at *; done) | (simp at *; omega)) ?_)
    refine s_storeN rfl rfl rfl rfl rfl (by first | trivial | (simp; done) | (simp; omega) | (simp at *; done) | (simp at *; omega)) rfl rfl rfl (by rw [cellsOf86]; rfl) (by rw [info86]; rfl) rfl rfl ?_
    repeat (first | refine W_seq ?_ | refine W_region ?_ | refine W_block ?_ | refine W_skip ?_ | refine W_ret ?_ | refine W_exit ?_ | refine WL_nil ?_ | refine N_then ?_ | refine N_then_exit ?_ | refine N_then_ret ?_ | refine N_block ?_ | refine N_block_ret ?_ | refine N_block_exit ?_ | refine N_block_pass rfl ?_ | refine W_scope ?_ | refine W_label ?_ | refine N_scope ?_ | refine N_scope_ret ?_ | refine N_scope_exit ?_ | refine sp true rfl rfl (by rw [hn]; rfl) (by first | trivial | (simp; done) | (simp; omega) | (simp at *; done) | (simp at *; omega)) ?_ | refine sg true rfl rfl rfl (by rw [hn]; rfl) (by intro hG; first | trivial | (simp; done) | (simp; omega) | (simp at *; done) | (simp at *; omega)) ?_)
    exact N_retN [] rfl (by first | trivial | (simp; done) | (simp; omega) | (simp at *; done) | (simp at *; omega)) ⟨rfl, by first | trivial | exact ⟨rfl, rfl⟩, by first | trivial | exact rfl | exact ⟨rfl, rfl⟩, rfl⟩ hb rfl (by first | trivial | (simp; done) | (simp [ordL]; done))
  have h1' : T.2.2 = 0 := by simpa using h1
  rw [if_pos h1'] at hTT
  repeat (first | refine W_seq ?_ | refine W_region ?_ | refine W_block ?_ | refine W_skip ?_ | refine W_ret ?_ | refine W_exit ?_ | refine WL_nil ?_ | refine N_then ?_ | refine N_then_exit ?_ | refine N_then_ret ?_ | refine N_block ?_ | refine N_block_ret ?_ | refine N_block_exit ?_ | refine N_block_pass rfl ?_ | refine W_scope ?_ | refine W_label ?_ | refine N_scope ?_ | refine N_scope_ret ?_ | refine N_scope_exit ?_ | refine sp true rfl rfl (by rw [hn]; rfl) (by first | trivial | (simp; done) | (simp; omega) | (simp at *; done) | (simp at *; omega)) ?_ | refine sg true rfl rfl rfl (by rw [hn]; rfl) (by intro hG; first | trivial | (simp; done) | (simp; omega) | (simp at *; done) | (simp at *; omega)) ?_)
  refine s_call0 (hnl) rfl rfl rfl (by rw [hn]; rfl) rfl rfl (by first | trivial | (simp; done) | (simp; omega) | (simp at *; done) | (simp at *; omega)) rfl rfl rfl ?_
  repeat (first | refine W_seq ?_ | refine W_region ?_ | refine W_block ?_ | refine W_skip ?_ | refine W_ret ?_ | refine W_exit ?_ | refine WL_nil ?_ | refine N_then ?_ | refine N_then_exit ?_ | refine N_then_ret ?_ | refine N_block ?_ | refine N_block_ret ?_ | refine N_block_exit ?_ | refine N_block_pass rfl ?_ | refine W_scope ?_ | refine W_label ?_ | refine N_scope ?_ | refine N_scope_ret ?_ | refine N_scope_exit ?_ | refine sp true rfl rfl (by rw [hn]; rfl) (by first | trivial | (simp; done) | (simp; omega) | (simp at *; done) | (simp at *; omega)) ?_ | refine sg true rfl rfl rfl (by rw [hn]; rfl) (by intro hG; first | trivial | (simp; done) | (simp; omega) | (simp at *; done) | (simp at *; omega)) ?_)
  refine W_cond rfl (by simp) (fun h2 => ?_) (fun h2 => ?_)
  · have h2' : ¬ N.2.2 = 0 := by simpa using h2
    rw [if_neg h2'] at hTT
    subst hTT
    repeat (first | refine W_seq ?_ | refine W_region ?_ | refine W_block ?_ | refine W_skip ?_ | refine W_ret ?_ | refine W_exit ?_ | refine WL_nil ?_ | refine N_then ?_ | refine N_then_exit ?_ | refine N_then_ret ?_ | refine N_block ?_ | refine N_block_ret ?_ | refine N_block_exit ?_ | refine N_block_pass rfl ?_ | refine W_scope ?_ | refine W_label ?_ | refine N_scope ?_ | refine N_scope_ret ?_ | refine N_scope_exit ?_ | refine sp true rfl rfl (by rw [hn]; rfl) (by first | trivial | (simp; done) | (simp; omega) | (simp at *; done) | (simp at *; omega)) ?_ | refine sg true rfl rfl rfl (by rw [hn]; rfl) (by intro hG; first | trivial | (simp; done) | (simp; omega) | (simp at *; done) | (simp at *; omega)) ?_)
    refine s_storeN rfl rfl rfl rfl rfl (by first | trivial | (simp; done) | (simp; omega) | (simp at *; done) | (simp at *; omega)) rfl rfl rfl (by rw [cellsOf86]; rfl) (by rw [info86]; rfl) rfl rfl ?_
    repeat (first | refine W_seq ?_ | refine W_region ?_ | refine W_block ?_ | refine W_skip ?_ | refine W_ret ?_ | refine W_exit ?_ | refine WL_nil ?_ | refine N_then ?_ | refine N_then_exit ?_ | refine N_then_ret ?_ | refine N_block ?_ | refine N_block_ret ?_ | refine N_block_exit ?_ | refine N_block_pass rfl ?_ | refine W_scope ?_ | refine W_label ?_ | refine N_scope ?_ | refine N_scope_ret ?_ | refine N_scope_exit ?_ | refine sp true rfl rfl (by rw [hn]; rfl) (by first | trivial | (simp; done) | (simp; omega) | (simp at *; done) | (simp at *; omega)) ?_ | refine sg true rfl rfl rfl (by rw [hn]; rfl) (by intro hG; first | trivial | (simp; done) | (simp; omega) | (simp at *; done) | (simp at *; omega)) ?_)
    exact N_retN [] rfl (by first | trivial | (simp; done) | (simp; omega) | (simp at *; done) | (simp at *; omega)) ⟨rfl, by first | trivial | exact ⟨rfl, rfl⟩, by first | trivial | exact rfl | exact ⟨rfl, rfl⟩, rfl⟩ hb rfl (by first | trivial | (simp; done) | (simp [ordL]; done))
  have h2' : N.2.2 = 0 := by simpa using h2
  rw [if_pos h2'] at hTT
  subst hTT
  repeat (first | refine W_seq ?_ | refine W_region ?_ | refine W_block ?_ | refine W_skip ?_ | refine W_ret ?_ | refine W_exit ?_ | refine WL_nil ?_ | refine N_then ?_ | refine N_then_exit ?_ | refine N_then_ret ?_ | refine N_block ?_ | refine N_block_ret ?_ | refine N_block_exit ?_ | refine N_block_pass rfl ?_ | refine W_scope ?_ | refine W_label ?_ | refine N_scope ?_ | refine N_scope_ret ?_ | refine N_scope_exit ?_ | refine sp true rfl rfl (by rw [hn]; rfl) (by first | trivial | (simp; done) | (simp; omega) | (simp at *; done) | (simp at *; omega)) ?_ | refine sg true rfl rfl rfl (by rw [hn]; rfl) (by intro hG; first | trivial | (simp; done) | (simp; omega) | (simp at *; done) | (simp at *; omega)) ?_)
  refine s_storeN rfl rfl rfl rfl rfl (by first | trivial | (simp; done) | (simp; omega) | (simp at *; done) | (simp at *; omega)) rfl rfl rfl (by rw [cellsOf86]; rfl) (by rw [info86]; rfl) rfl rfl ?_
  repeat (first | refine W_seq ?_ | refine W_region ?_ | refine W_block ?_ | refine W_skip ?_ | refine W_ret ?_ | refine W_exit ?_ | refine WL_nil ?_ | refine N_then ?_ | refine N_then_exit ?_ | refine N_then_ret ?_ | refine N_block ?_ | refine N_block_ret ?_ | refine N_block_exit ?_ | refine N_block_pass rfl ?_ | refine W_scope ?_ | refine W_label ?_ | refine N_scope ?_ | refine N_scope_ret ?_ | refine N_scope_exit ?_ | refine sp true rfl rfl (by rw [hn]; rfl) (by first | trivial | (simp; done) | (simp; omega) | (simp at *; done) | (simp at *; omega)) ?_ | refine sg true rfl rfl rfl (by rw [hn]; rfl) (by intro hG; first | trivial | (simp; done) | (simp; omega) | (simp at *; done) | (simp at *; omega)) ?_)
  exact N_retN [] rfl (by first | trivial | (simp; done) | (simp; omega) | (simp at *; done) | (simp at *; omega)) ⟨rfl, by first | trivial | exact ⟨rfl, rfl⟩, by first | trivial | exact rfl | exact ⟨rfl, rfl⟩, rfl⟩ hb rfl (by first | trivial | (simp; done) | (simp [ordL]; done))
abbrev opR (r : List Int × Nat × Int) : Av := .tup [B8 r.1, lv (.int .i64 (r.2.1 : Int)), lv (.int .i64 r.2.2)]
theorem refopen_ok (l : List Int) (p : Nat) (t : TagP) (hp : p ≤ l.length) (hl : l.length ≤ 1000000) (hw : WfB l) : Ct Try.prog 90 [B8 l, lv (.int .i64 (p : Int)), tagA t] [] (opR (openP l p t)) [] [] := by
  have hTT := openP_eq l p t
  have hr := refread_ok l p hp hl hw
  have hle := readP_le l p hp
  have hpos := readP_pos l p hw
  generalize openP l p t = R at *
  generalize readP l p = F at *
  refine Ct_intro Try.func90 rfl rfl rfl rfl rfl (fun E hn hb => ?_)
  repeat (first | refine W_seq ?_ | refine W_region ?_ | refine W_block ?_ | refine W_skip ?_ | refine W_ret ?_ | refine W_exit ?_ | refine WL_nil ?_ | refine N_then ?_ | refine N_then_exit ?_ | refine N_then_ret ?_ | refine N_block ?_ | refine N_block_ret ?_ | refine N_block_exit ?_ | refine N_block_pass rfl ?_ | refine W_scope ?_ | refine W_label ?_ | refine N_scope ?_ | refine N_scope_ret ?_ | refine N_scope_exit ?_ | refine sp true rfl rfl (by rw [hn]; rfl) (by first | trivial | (simp; done) | (simp; omega) | (simp at *; done) | (simp at *; omega)) ?_ | refine sg true rfl rfl rfl (by rw [hn]; rfl) (by intro hG; first | trivial | (simp; done) | (simp; omega) | (simp at *; done) | (simp at *; omega)) ?_)
  refine s_boxN rfl rfl rfl (by rw [hn]; rfl) rfl (by first | trivial | (simp; done) | (simp; omega) | (simp at *; done) | (simp at *; omega)) rfl rfl ?_
  repeat (first | refine W_seq ?_ | refine W_region ?_ | refine W_block ?_ | refine W_skip ?_ | refine W_ret ?_ | refine W_exit ?_ | refine WL_nil ?_ | refine N_then ?_ | refine N_then_exit ?_ | refine N_then_ret ?_ | refine N_block ?_ | refine N_block_ret ?_ | refine N_block_exit ?_ | refine N_block_pass rfl ?_ | refine W_scope ?_ | refine W_label ?_ | refine N_scope ?_ | refine N_scope_ret ?_ | refine N_scope_exit ?_ | refine sp true rfl rfl (by rw [hn]; rfl) (by first | trivial | (simp; done) | (simp; omega) | (simp at *; done) | (simp at *; omega)) ?_ | refine sg true rfl rfl rfl (by rw [hn]; rfl) (by intro hG; first | trivial | (simp; done) | (simp; omega) | (simp at *; done) | (simp at *; omega)) ?_)
  refine s_call0 (hr) rfl rfl rfl (by rw [hn]; rfl) rfl rfl (by first | trivial | (simp; done) | (simp; omega) | (simp at *; done) | (simp at *; omega)) rfl rfl rfl ?_
  repeat (first | refine W_seq ?_ | refine W_region ?_ | refine W_block ?_ | refine W_skip ?_ | refine W_ret ?_ | refine W_exit ?_ | refine WL_nil ?_ | refine N_then ?_ | refine N_then_exit ?_ | refine N_then_ret ?_ | refine N_block ?_ | refine N_block_ret ?_ | refine N_block_exit ?_ | refine N_block_pass rfl ?_ | refine W_scope ?_ | refine W_label ?_ | refine N_scope ?_ | refine N_scope_ret ?_ | refine N_scope_exit ?_ | refine sp true rfl rfl (by rw [hn]; rfl) (by first | trivial | (simp; done) | (simp; omega) | (simp at *; done) | (simp at *; omega)) ?_ | refine sg true rfl rfl rfl (by rw [hn]; rfl) (by intro hG; first | trivial | (simp; done) | (simp; omega) | (simp at *; done) | (simp at *; omega)) ?_)
  refine s_allocN rfl rfl rfl (by rw [hn]; rfl) rfl zok86 ?_
  repeat (first | refine W_seq ?_ | refine W_region ?_ | refine W_block ?_ | refine W_skip ?_ | refine W_ret ?_ | refine W_exit ?_ | refine WL_nil ?_ | refine N_then ?_ | refine N_then_exit ?_ | refine N_then_ret ?_ | refine N_block ?_ | refine N_block_ret ?_ | refine N_block_exit ?_ | refine N_block_pass rfl ?_ | refine W_scope ?_ | refine W_label ?_ | refine N_scope ?_ | refine N_scope_ret ?_ | refine N_scope_exit ?_ | refine sp true rfl rfl (by rw [hn]; rfl) (by first | trivial | (simp; done) | (simp; omega) | (simp at *; done) | (simp at *; omega)) ?_ | refine sg true rfl rfl rfl (by rw [hn]; rfl) (by intro hG; first | trivial | (simp; done) | (simp; omega) | (simp at *; done) | (simp at *; omega)) ?_)
  refine s_storeN rfl rfl rfl rfl rfl (by first | trivial | (simp; done) | (simp; omega) | (simp at *; done) | (simp at *; omega)) rfl rfl rfl (by rw [cellsOf86]; rfl) (by rw [info86]; rfl) rfl rfl ?_
  repeat (first | refine W_seq ?_ | refine W_region ?_ | refine W_block ?_ | refine W_skip ?_ | refine W_ret ?_ | refine W_exit ?_ | refine WL_nil ?_ | refine N_then ?_ | refine N_then_exit ?_ | refine N_then_ret ?_ | refine N_block ?_ | refine N_block_ret ?_ | refine N_block_exit ?_ | refine N_block_pass rfl ?_ | refine W_scope ?_ | refine W_label ?_ | refine N_scope ?_ | refine N_scope_ret ?_ | refine N_scope_exit ?_ | refine sp true rfl rfl (by rw [hn]; rfl) (by first | trivial | (simp; done) | (simp; omega) | (simp at *; done) | (simp at *; omega)) ?_ | refine sg true rfl rfl rfl (by rw [hn]; rfl) (by intro hG; first | trivial | (simp; done) | (simp; omega) | (simp at *; done) | (simp at *; omega)) ?_)
  refine W_cond rfl (by simp) (fun h1 => ?_) (fun h1 => ?_)
  · have h1' : ¬ F.2.2 = 0 := by simpa using h1
    rw [if_neg h1'] at hTT
    subst hTT
    repeat (first | refine W_seq ?_ | refine W_region ?_ | refine W_block ?_ | refine W_skip ?_ | refine W_ret ?_ | refine W_exit ?_ | refine WL_nil ?_ | refine N_then ?_ | refine N_then_exit ?_ | refine N_then_ret ?_ | refine N_block ?_ | refine N_block_ret ?_ | refine N_block_exit ?_ | refine N_block_pass rfl ?_ | refine W_scope ?_ | refine W_label ?_ | refine N_scope ?_ | refine N_scope_ret ?_ | refine N_scope_exit ?_ | refine sp true rfl rfl (by rw [hn]; rfl) (by first | trivial | (simp; done) | (simp; omega) | (simp at *; done) | (simp at *; omega)) ?_ | refine sg true rfl rfl rfl (by rw [hn]; rfl) (by intro hG; first | trivial | (simp; done) | (simp; omega) | (simp at *; done) | (simp at *; omega)) ?_)
    refine N_retU [] rfl (by simp) (r' := .tup [B8 [], lv (.int .i64 (p : Int)), lv (.int .i64 F.2.2)]) ⟨.inr ⟨rfl, .inl ⟨_, rfl⟩⟩, .inl rfl, .inl rfl, trivial⟩ ⟨rfl, trivial, trivial, rfl⟩ hb rfl trivial
  have h1' : F.2.2 = 0 := by simpa using h1
  rw [if_pos h1'] at hTT
  repeat (first | refine W_seq ?_ | refine W_region ?_ | refine W_block ?_ | refine W_skip ?_ | refine W_ret ?_ | refine W_exit ?_ | refine WL_nil ?_ | refine N_then ?_ | refine N_then_exit ?_ | refine N_then_ret ?_ | refine N_block ?_ | refine N_block_ret ?_ | refine N_block_exit ?_ | refine N_block_pass rfl ?_ | refine W_scope ?_ | refine W_label ?_ | refine N_scope ?_ | refine N_scope_ret ?_ | refine N_scope_exit ?_ | refine sp true rfl rfl (by rw [hn]; rfl) (by first | trivial | (simp; done) | (simp; omega) | (simp at *; done) | (simp at *; omega)) ?_ | refine sg true rfl rfl rfl (by rw [hn]; rfl) (by intro hG; first | trivial | (simp; done) | (simp; omega) | (simp at *; done) | (simp at *; omega)) ?_)
  refine WL_q (opq_of (opy_eqS (neg := true) (l := tagC F.1.1) (m := tagC t) rfl structT86 heldT86 (by first | rfl | (rw [cellsOf86]; rfl)) (by first | rfl | (rw [cellsOf86]; rfl)) (by trivial) guardT86 (eqokT86 _ _)) rfl) (by rw [hn]; rfl) ?_
  rw [eqT]
  repeat (first | refine W_seq ?_ | refine W_region ?_ | refine W_block ?_ | refine W_skip ?_ | refine W_ret ?_ | refine W_exit ?_ | refine WL_nil ?_ | refine N_then ?_ | refine N_then_exit ?_ | refine N_then_ret ?_ | refine N_block ?_ | refine N_block_ret ?_ | refine N_block_exit ?_ | refine N_block_pass rfl ?_ | refine W_scope ?_ | refine W_label ?_ | refine N_scope ?_ | refine N_scope_ret ?_ | refine N_scope_exit ?_ | refine sp true rfl rfl (by rw [hn]; rfl) (by first | trivial | (simp; done) | (simp; omega) | (simp at *; done) | (simp at *; omega)) ?_ | refine sg true rfl rfl rfl (by rw [hn]; rfl) (by intro hG; first | trivial | (simp; done) | (simp; omega) | (simp at *; done) | (simp at *; omega)) ?_)
  refine W_cond rfl (by simp) (fun h2 => ?_) (fun h2 => ?_)
  · have h2' : ¬ F.1.1 = t := by simpa using h2
    rw [if_neg h2'] at hTT
    subst hTT
    repeat (first | refine W_seq ?_ | refine W_region ?_ | refine W_block ?_ | refine W_skip ?_ | refine W_ret ?_ | refine W_exit ?_ | refine WL_nil ?_ | refine N_then ?_ | refine N_then_exit ?_ | refine N_then_ret ?_ | refine N_block ?_ | refine N_block_ret ?_ | refine N_block_exit ?_ | refine N_block_pass rfl ?_ | refine W_scope ?_ | refine W_label ?_ | refine N_scope ?_ | refine N_scope_ret ?_ | refine N_scope_exit ?_ | refine sp true rfl rfl (by rw [hn]; rfl) (by first | trivial | (simp; done) | (simp; omega) | (simp at *; done) | (simp at *; omega)) ?_ | refine sg true rfl rfl rfl (by rw [hn]; rfl) (by intro hG; first | trivial | (simp; done) | (simp; omega) | (simp at *; done) | (simp at *; omega)) ?_)
    refine N_retU [] rfl (by simp) (r' := .tup [B8 [], lv (.int .i64 (p : Int)), lv (.int .i64 4)]) ⟨.inr ⟨rfl, .inl ⟨_, rfl⟩⟩, .inl rfl, .inl rfl, trivial⟩ ⟨rfl, trivial, trivial, rfl⟩ hb rfl trivial
  have h2' : F.1.1 = t := by simpa using h2
  rw [if_pos h2'] at hTT
  repeat (first | refine W_seq ?_ | refine W_region ?_ | refine W_block ?_ | refine W_skip ?_ | refine W_ret ?_ | refine W_exit ?_ | refine WL_nil ?_ | refine N_then ?_ | refine N_then_exit ?_ | refine N_then_ret ?_ | refine N_block ?_ | refine N_block_ret ?_ | refine N_block_exit ?_ | refine N_block_pass rfl ?_ | refine W_scope ?_ | refine W_label ?_ | refine N_scope ?_ | refine N_scope_ret ?_ | refine N_scope_exit ?_ | refine sp true rfl rfl (by rw [hn]; rfl) (by first | trivial | (simp; done) | (simp; omega) | (simp at *; done) | (simp at *; omega)) ?_ | refine sg true rfl rfl rfl (by rw [hn]; rfl) (by intro hG; first | trivial | (simp; done) | (simp; omega) | (simp at *; done) | (simp at *; omega)) ?_)
  refine W_cond rfl (by simp) (fun h3 => ?_) (fun h3 => ?_)
  · have h3' : (l.length : Int) - (F.2.1 : Int) < F.1.2 := by simpa using h3
    rw [if_pos h3'] at hTT
    subst hTT
    repeat (first | refine W_seq ?_ | refine W_region ?_ | refine W_block ?_ | refine W_skip ?_ | refine W_ret ?_ | refine W_exit ?_ | refine WL_nil ?_ | refine N_then ?_ | refine N_then_exit ?_ | refine N_then_ret ?_ | refine N_block ?_ | refine N_block_ret ?_ | refine N_block_exit ?_ | refine N_block_pass rfl ?_ | refine W_scope ?_ | refine W_label ?_ | refine N_scope ?_ | refine N_scope_ret ?_ | refine N_scope_exit ?_ | refine sp true rfl rfl (by rw [hn]; rfl) (by first | trivial | (simp; done) | (simp; omega) | (simp at *; done) | (simp at *; omega)) ?_ | refine sg true rfl rfl rfl (by rw [hn]; rfl) (by intro hG; first | trivial | (simp; done) | (simp; omega) | (simp at *; done) | (simp at *; omega)) ?_)
    refine N_retU [] rfl (by simp) (r' := .tup [B8 [], lv (.int .i64 (p : Int)), lv (.int .i64 3)]) ⟨.inr ⟨rfl, .inl ⟨_, rfl⟩⟩, .inl rfl, .inl rfl, trivial⟩ ⟨rfl, trivial, trivial, rfl⟩ hb rfl trivial
  have h3' : ¬ (l.length : Int) - (F.2.1 : Int) < F.1.2 := by simpa using h3
  rw [if_neg h3'] at hTT
  obtain ⟨n, hn'⟩ : ∃ n : Nat, F.1.2 = (n : Int) := ⟨F.1.2.toNat, by omega⟩
  rw [hn', Int.toNat_natCast] at hTT
  subst hTT
  clear h3
  rw [hn'] at h3' hpos
  repeat (first | refine W_seq ?_ | refine W_region ?_ | refine W_block ?_ | refine W_skip ?_ | refine W_ret ?_ | refine W_exit ?_ | refine WL_nil ?_ | refine N_then ?_ | refine N_then_exit ?_ | refine N_then_ret ?_ | refine N_block ?_ | refine N_block_ret ?_ | refine N_block_exit ?_ | refine N_block_pass rfl ?_ | refine W_scope ?_ | refine W_label ?_ | refine N_scope ?_ | refine N_scope_ret ?_ | refine N_scope_exit ?_ | refine sp true rfl rfl (by rw [hn]; rfl) (by first | trivial | (simp; done) | (simp; omega) | (simp at *; done) | (simp at *; omega)) ?_ | refine sg true rfl rfl rfl (by rw [hn]; rfl) (by intro hG; first | trivial | (simp; done) | (simp; omega) | (simp at *; done) | (simp at *; omega)) ?_)
  rw [hn']
  repeat (first | refine W_seq ?_ | refine W_region ?_ | refine W_block ?_ | refine W_skip ?_ | refine W_ret ?_ | refine W_exit ?_ | refine WL_nil ?_ | refine N_then ?_ | refine N_then_exit ?_ | refine N_then_ret ?_ | refine N_block ?_ | refine N_block_ret ?_ | refine N_block_exit ?_ | refine N_block_pass rfl ?_ | refine W_scope ?_ | refine W_label ?_ | refine N_scope ?_ | refine N_scope_ret ?_ | refine N_scope_exit ?_ | refine sp true rfl rfl (by rw [hn]; rfl) (by first | trivial | (simp; done) | (simp; omega) | (simp at *; done) | (simp at *; omega)) ?_ | refine sg true rfl rfl rfl (by rw [hn]; rfl) (by intro hG; first | trivial | (simp; done) | (simp; omega) | (simp at *; done) | (simp at *; omega)) ?_)
  refine N_retN [] rfl (by first | trivial | (simp; done) | (simp; omega) | (simp at *; done) | (simp at *; omega)) ⟨?_, by first | trivial | exact ⟨rfl, rfl⟩, ?_, rfl⟩ hb rfl (by first | trivial | (simp; done) | (simp [ordL]; done))
  · show Av.tup [B8 ((List.take ((F.2.1 : Int) + (n : Int)).toNat l).drop (F.2.1 : Int).toNat), lv (.int .i64 ((F.2.1 : Int) + (n : Int))), lv (.int .i64 0)] = _
    rw [show ((F.2.1 : Int) + (n : Int)) = ((F.2.1 + n : Nat) : Int) by omega, Int.toNat_natCast, Int.toNat_natCast, List.drop_take, Nat.add_sub_cancel_left]
    rfl
  · trivial
abbrev pnR (r : (Bool × List Int × Int) × Nat) : Av := .tup [numA r.1.1 r.1.2.1, lv (.int .i64 (r.2 : Int)), lv (.int .i64 r.1.2.2)]
theorem refnum_ok (l : List Int) (p : Nat) (t : TagP) (hp : p ≤ l.length) (hl : l.length ≤ 1000) (hw : WfB l) : Ct Try.prog 58 [B8 l, lv (.int .i64 (p : Int)), tagA t] [] (pnR (parsedP l p t)) [] [] := by
  obtain ⟨m1, m2⟩ := openP_mem l p t
  have ho := refopen_ok l p t hp (by omega) hw
  have hx : WfB (openP l p t).1 := fun x h => hw x (m2 x h)
  have hps := refparse_ok (openP l p t).1 (by omega) hx
  rw [parse_eq _ hx] at hps
  have her := parse_err (openP l p t).1
  generalize hRR : parsedP l p t = R
  unfold parsedP at hRR
  generalize openP l p t = O at *
  generalize parseN O.1 = N at *
  refine Ct_intro Try.func58 rfl rfl rfl rfl rfl (fun E hn hb => ?_)
  repeat (first | refine W_seq ?_ | refine W_region ?_ | refine W_block ?_ | refine W_skip ?_ | refine W_ret ?_ | refine W_exit ?_ | refine WL_nil ?_ | refine N_then ?_ | refine N_then_exit ?_ | refine N_then_ret ?_ | refine N_block ?_ | refine N_block_ret ?_ | refine N_block_exit ?_ | refine N_block_pass rfl ?_ | refine W_scope ?_ | refine W_label ?_ | refine N_scope ?_ | refine N_scope_ret ?_ | refine N_scope_exit ?_ | refine sp true rfl rfl (by rw [hn]; rfl) (by first | trivial | (simp; done) | (simp; omega) | (simp at *; done) | (simp at *; omega)) ?_ | refine sg true rfl rfl rfl (by rw [hn]; rfl) (by intro hG; first | trivial | (simp; done) | (simp; omega) | (simp at *; done) | (simp at *; omega)) ?_)
  refine s_boxN rfl rfl rfl (by rw [hn]; rfl) rfl (by first | trivial | (simp; done) | (simp; omega) | (simp at *; done) | (simp at *; omega)) rfl rfl ?_
  repeat (first | refine W_seq ?_ | refine W_region ?_ | refine W_block ?_ | refine W_skip ?_ | refine W_ret ?_ | refine W_exit ?_ | refine WL_nil ?_ | refine N_then ?_ | refine N_then_exit ?_ | refine N_then_ret ?_ | refine N_block ?_ | refine N_block_ret ?_ | refine N_block_exit ?_ | refine N_block_pass rfl ?_ | refine W_scope ?_ | refine W_label ?_ | refine N_scope ?_ | refine N_scope_ret ?_ | refine N_scope_exit ?_ | refine sp true rfl rfl (by rw [hn]; rfl) (by first | trivial | (simp; done) | (simp; omega) | (simp at *; done) | (simp at *; omega)) ?_ | refine sg true rfl rfl rfl (by rw [hn]; rfl) (by intro hG; first | trivial | (simp; done) | (simp; omega) | (simp at *; done) | (simp at *; omega)) ?_)
  refine s_allocN rfl rfl rfl (by rw [hn]; rfl) rfl zok24 ?_
  repeat (first | refine W_seq ?_ | refine W_region ?_ | refine W_block ?_ | refine W_skip ?_ | refine W_ret ?_ | refine W_exit ?_ | refine WL_nil ?_ | refine N_then ?_ | refine N_then_exit ?_ | refine N_then_ret ?_ | refine N_block ?_ | refine N_block_ret ?_ | refine N_block_exit ?_ | refine N_block_pass rfl ?_ | refine W_scope ?_ | refine W_label ?_ | refine N_scope ?_ | refine N_scope_ret ?_ | refine N_scope_exit ?_ | refine sp true rfl rfl (by rw [hn]; rfl) (by first | trivial | (simp; done) | (simp; omega) | (simp at *; done) | (simp at *; omega)) ?_ | refine sg true rfl rfl rfl (by rw [hn]; rfl) (by intro hG; first | trivial | (simp; done) | (simp; omega) | (simp at *; done) | (simp at *; omega)) ?_)
  refine s_call0 (ho) rfl rfl rfl (by rw [hn]; rfl) rfl rfl (by first | trivial | (simp; done) | (simp; omega) | (simp at *; done) | (simp at *; omega)) rfl rfl rfl ?_
  repeat (first | refine W_seq ?_ | refine W_region ?_ | refine W_block ?_ | refine W_skip ?_ | refine W_ret ?_ | refine W_exit ?_ | refine WL_nil ?_ | refine N_then ?_ | refine N_then_exit ?_ | refine N_then_ret ?_ | refine N_block ?_ | refine N_block_ret ?_ | refine N_block_exit ?_ | refine N_block_pass rfl ?_ | refine W_scope ?_ | refine W_label ?_ | refine N_scope ?_ | refine N_scope_ret ?_ | refine N_scope_exit ?_ | refine sp true rfl rfl (by rw [hn]; rfl) (by first | trivial | (simp; done) | (simp; omega) | (simp at *; done) | (simp at *; omega)) ?_ | refine sg true rfl rfl rfl (by rw [hn]; rfl) (by intro hG; first | trivial | (simp; done) | (simp; omega) | (simp at *; done) | (simp at *; omega)) ?_)
  refine W_cond rfl (by simp) (fun h1 => ?_) (fun h1 => ?_)
  · have h1' : ¬ O.2.2 = 0 := by simpa using h1
    rw [if_neg h1'] at hRR
    subst hRR
    repeat (first | refine W_seq ?_ | refine W_region ?_ | refine W_block ?_ | refine W_skip ?_ | refine W_ret ?_ | refine W_exit ?_ | refine WL_nil ?_ | refine N_then ?_ | refine N_then_exit ?_ | refine N_then_ret ?_ | refine N_block ?_ | refine N_block_ret ?_ | refine N_block_exit ?_ | refine N_block_pass rfl ?_ | refine W_scope ?_ | refine W_label ?_ | refine N_scope ?_ | refine N_scope_ret ?_ | refine N_scope_exit ?_ | refine sp true rfl rfl (by rw [hn]; rfl) (by first | trivial | (simp; done) | (simp; omega) | (simp at *; done) | (simp at *; omega)) ?_ | refine sg true rfl rfl rfl (by rw [hn]; rfl) (by intro hG; first | trivial | (simp; done) | (simp; omega) | (simp at *; done) | (simp at *; omega)) ?_)
    refine s_storeN rfl rfl rfl rfl rfl (by first | trivial | (simp; done) | (simp; omega) | (simp at *; done) | (simp at *; omega)) rfl rfl rfl (by rw [cellsOf24]; rfl) (by rw [info24]; rfl) rfl rfl ?_
    repeat (first | refine W_seq ?_ | refine W_region ?_ | refine W_block ?_ | refine W_skip ?_ | refine W_ret ?_ | refine W_exit ?_ | refine WL_nil ?_ | refine N_then ?_ | refine N_then_exit ?_ | refine N_then_ret ?_ | refine N_block ?_ | refine N_block_ret ?_ | refine N_block_exit ?_ | refine N_block_pass rfl ?_ | refine W_scope ?_ | refine W_label ?_ | refine N_scope ?_ | refine N_scope_ret ?_ | refine N_scope_exit ?_ | refine sp true rfl rfl (by rw [hn]; rfl) (by first | trivial | (simp; done) | (simp; omega) | (simp at *; done) | (simp at *; omega)) ?_ | refine sg true rfl rfl rfl (by rw [hn]; rfl) (by intro hG; first | trivial | (simp; done) | (simp; omega) | (simp at *; done) | (simp at *; omega)) ?_)
    refine N_retU [] rfl (by simp) (r' := .tup [numA false [], lv (.int .i64 (p : Int)), lv (.int .i64 O.2.2)]) ⟨⟨.inl rfl, .inr ⟨rfl, .inl ⟨_, rfl⟩⟩, trivial⟩, .inl rfl, .inl rfl, trivial⟩ ⟨rfl, trivial, trivial, rfl⟩ hb rfl trivial
  have h1' : O.2.2 = 0 := by simpa using h1
  rw [if_pos h1'] at hRR
  repeat (first | refine W_seq ?_ | refine W_region ?_ | refine W_block ?_ | refine W_skip ?_ | refine W_ret ?_ | refine W_exit ?_ | refine WL_nil ?_ | refine N_then ?_ | refine N_then_exit ?_ | refine N_then_ret ?_ | refine N_block ?_ | refine N_block_ret ?_ | refine N_block_exit ?_ | refine N_block_pass rfl ?_ | refine W_scope ?_ | refine W_label ?_ | refine N_scope ?_ | refine N_scope_ret ?_ | refine N_scope_exit ?_ | refine sp true rfl rfl (by rw [hn]; rfl) (by first | trivial | (simp; done) | (simp; omega) | (simp at *; done) | (simp at *; omega)) ?_ | refine sg true rfl rfl rfl (by rw [hn]; rfl) (by intro hG; first | trivial | (simp; done) | (simp; omega) | (simp at *; done) | (simp at *; omega)) ?_)
  refine s_call0 (hps) rfl rfl rfl (by rw [hn]; rfl) rfl rfl (by first | trivial | (simp; done) | (simp; omega) | (simp at *; done) | (simp at *; omega)) rfl rfl rfl ?_
  repeat (first | refine W_seq ?_ | refine W_region ?_ | refine W_block ?_ | refine W_skip ?_ | refine W_ret ?_ | refine W_exit ?_ | refine WL_nil ?_ | refine N_then ?_ | refine N_then_exit ?_ | refine N_then_ret ?_ | refine N_block ?_ | refine N_block_ret ?_ | refine N_block_exit ?_ | refine N_block_pass rfl ?_ | refine W_scope ?_ | refine W_label ?_ | refine N_scope ?_ | refine N_scope_ret ?_ | refine N_scope_exit ?_ | refine sp true rfl rfl (by rw [hn]; rfl) (by first | trivial | (simp; done) | (simp; omega) | (simp at *; done) | (simp at *; omega)) ?_ | refine sg true rfl rfl rfl (by rw [hn]; rfl) (by intro hG; first | trivial | (simp; done) | (simp; omega) | (simp at *; done) | (simp at *; omega)) ?_)
  refine s_allocN rfl rfl rfl (by rw [hn]; rfl) rfl zok24 ?_
  repeat (first | refine W_seq ?_ | refine W_region ?_ | refine W_block ?_ | refine W_skip ?_ | refine W_ret ?_ | refine W_exit ?_ | refine WL_nil ?_ | refine N_then ?_ | refine N_then_exit ?_ | refine N_then_ret ?_ | refine N_block ?_ | refine N_block_ret ?_ | refine N_block_exit ?_ | refine N_block_pass rfl ?_ | refine W_scope ?_ | refine W_label ?_ | refine N_scope ?_ | refine N_scope_ret ?_ | refine N_scope_exit ?_ | refine sp true rfl rfl (by rw [hn]; rfl) (by first | trivial | (simp; done) | (simp; omega) | (simp at *; done) | (simp at *; omega)) ?_ | refine sg true rfl rfl rfl (by rw [hn]; rfl) (by intro hG; first | trivial | (simp; done) | (simp; omega) | (simp at *; done) | (simp at *; omega)) ?_)
  refine s_storeN rfl rfl rfl rfl rfl (by first | trivial | (simp; done) | (simp; omega) | (simp at *; done) | (simp at *; omega)) rfl rfl rfl (by rw [cellsOf24]; rfl) (by rw [info24]; rfl) rfl rfl ?_
  repeat (first | refine W_seq ?_ | refine W_region ?_ | refine W_block ?_ | refine W_skip ?_ | refine W_ret ?_ | refine W_exit ?_ | refine WL_nil ?_ | refine N_then ?_ | refine N_then_exit ?_ | refine N_then_ret ?_ | refine N_block ?_ | refine N_block_ret ?_ | refine N_block_exit ?_ | refine N_block_pass rfl ?_ | refine W_scope ?_ | refine W_label ?_ | refine N_scope ?_ | refine N_scope_ret ?_ | refine N_scope_exit ?_ | refine sp true rfl rfl (by rw [hn]; rfl) (by first | trivial | (simp; done) | (simp; omega) | (simp at *; done) | (simp at *; omega)) ?_ | refine sg true rfl rfl rfl (by rw [hn]; rfl) (by intro hG; first | trivial | (simp; done) | (simp; omega) | (simp at *; done) | (simp at *; omega)) ?_)
  refine W_cond rfl (by simp) (fun h2 => ?_) (fun h2 => ?_)
  · have h2' : ¬ N.2.2 = 0 := by simpa using h2
    have e := her h2'
    rw [if_neg h2', e] at hRR
    subst hRR
    repeat (first | refine W_seq ?_ | refine W_region ?_ | refine W_block ?_ | refine W_skip ?_ | refine W_ret ?_ | refine W_exit ?_ | refine WL_nil ?_ | refine N_then ?_ | refine N_then_exit ?_ | refine N_then_ret ?_ | refine N_block ?_ | refine N_block_ret ?_ | refine N_block_exit ?_ | refine N_block_pass rfl ?_ | refine W_scope ?_ | refine W_label ?_ | refine N_scope ?_ | refine N_scope_ret ?_ | refine N_scope_exit ?_ | refine sp true rfl rfl (by rw [hn]; rfl) (by first | trivial | (simp; done) | (simp; omega) | (simp at *; done) | (simp at *; omega)) ?_ | refine sg true rfl rfl rfl (by rw [hn]; rfl) (by intro hG; first | trivial | (simp; done) | (simp; omega) | (simp at *; done) | (simp at *; omega)) ?_)
    refine s_storeN rfl rfl rfl rfl rfl (by first | trivial | (simp; done) | (simp; omega) | (simp at *; done) | (simp at *; omega)) rfl rfl rfl (by rw [cellsOf24]; rfl) (by rw [info24]; rfl) rfl rfl ?_
    repeat (first | refine W_seq ?_ | refine W_region ?_ | refine W_block ?_ | refine W_skip ?_ | refine W_ret ?_ | refine W_exit ?_ | refine WL_nil ?_ | refine N_then ?_ | refine N_then_exit ?_ | refine N_then_ret ?_ | refine N_block ?_ | refine N_block_ret ?_ | refine N_block_exit ?_ | refine N_block_pass rfl ?_ | refine W_scope ?_ | refine W_label ?_ | refine N_scope ?_ | refine N_scope_ret ?_ | refine N_scope_exit ?_ | refine sp true rfl rfl (by rw [hn]; rfl) (by first | trivial | (simp; done) | (simp; omega) | (simp at *; done) | (simp at *; omega)) ?_ | refine sg true rfl rfl rfl (by rw [hn]; rfl) (by intro hG; first | trivial | (simp; done) | (simp; omega) | (simp at *; done) | (simp at *; omega)) ?_)
    refine N_retU [] rfl (by simp) (r' := .tup [numA false [], lv (.int .i64 (p : Int)), lv (.int .i64 N.2.2)]) ⟨⟨.inl rfl, .inr ⟨rfl, .inl ⟨_, rfl⟩⟩, trivial⟩, .inl rfl, .inl rfl, trivial⟩ ⟨rfl, trivial, trivial, rfl⟩ hb rfl trivial
  have h2' : N.2.2 = 0 := by simpa using h2
  rw [if_pos h2'] at hRR
  subst hRR
  obtain ⟨nb, ns, ne⟩ := N
  dsimp only at h2'
  subst h2'
  repeat (first | refine W_seq ?_ | refine W_region ?_ | refine W_block ?_ | refine W_skip ?_ | refine W_ret ?_ | refine W_exit ?_ | refine WL_nil ?_ | refine N_then ?_ | refine N_then_exit ?_ | refine N_then_ret ?_ | refine N_block ?_ | refine N_block_ret ?_ | refine N_block_exit ?_ | refine N_block_pass rfl ?_ | refine W_scope ?_ | refine W_label ?_ | refine N_scope ?_ | refine N_scope_ret ?_ | refine N_scope_exit ?_ | refine sp true rfl rfl (by rw [hn]; rfl) (by first | trivial | (simp; done) | (simp; omega) | (simp at *; done) | (simp at *; omega)) ?_ | refine sg true rfl rfl rfl (by rw [hn]; rfl) (by intro hG; first | trivial | (simp; done) | (simp; omega) | (simp at *; done) | (simp at *; omega)) ?_)
  refine s_storeN rfl rfl rfl rfl rfl (by first | trivial | (simp; done) | (simp; omega) | (simp at *; done) | (simp at *; omega)) rfl rfl rfl (by rw [cellsOf24]; rfl) (by rw [info24]; rfl) rfl rfl ?_
  repeat (first | refine W_seq ?_ | refine W_region ?_ | refine W_block ?_ | refine W_skip ?_ | refine W_ret ?_ | refine W_exit ?_ | refine WL_nil ?_ | refine N_then ?_ | refine N_then_exit ?_ | refine N_then_ret ?_ | refine N_block ?_ | refine N_block_ret ?_ | refine N_block_exit ?_ | refine N_block_pass rfl ?_ | refine W_scope ?_ | refine W_label ?_ | refine N_scope ?_ | refine N_scope_ret ?_ | refine N_scope_exit ?_ | refine sp true rfl rfl (by rw [hn]; rfl) (by first | trivial | (simp; done) | (simp; omega) | (simp at *; done) | (simp at *; omega)) ?_ | refine sg true rfl rfl rfl (by rw [hn]; rfl) (by intro hG; first | trivial | (simp; done) | (simp; omega) | (simp at *; done) | (simp at *; omega)) ?_)
  exact N_retN [] rfl (by first | trivial | (simp; done) | (simp; omega) | (simp at *; done) | (simp at *; omega)) ⟨rfl, by first | trivial | exact ⟨rfl, rfl⟩, by first | trivial | exact rfl | exact ⟨rfl, rfl⟩, rfl⟩ hb rfl (by first | trivial | (simp; done) | (simp [ordL]; done))
end Go.Proofs.Ytppmfjopokkhmaa

/-
  Chapter 03: the sum of two sizes, the program's way. The conditions: rows of at most a hundred thousand bytes.
-/
import Derived.Test.YtppmfjopokkhmaaW24
namespace Go.Proofs.Ytppmfjopokkhmaa
set_option linter.unusedSimpArgs false
set_option linter.unusedVariables false
open Go.Sx

set_option maxRecDepth 10000

def plusL (l m : List Int) : List Int := (addC (padL l (max l.length m.length + 1)) (padL m (max l.length m.length + 1))).1
theorem plus_val (l m : List Int) (hl : WfB l) (hm : WfB m) : valA 0 (plusL l m) = valA 0 l + valA 0 m := by
  have h1 := pad_len l (max l.length m.length + 1) (by omega)
  have h2 := pad_len m (max l.length m.length + 1) (by omega)
  have h3 := add_val (padL l (max l.length m.length + 1)) (padL m (max l.length m.length + 1)) 0 0 (by omega)
  rw [pad_val, pad_val] at h3
  have h4 : (addC (padL l (max l.length m.length + 1)) (padL m (max l.length m.length + 1))).2 = 0 := by
    have e1 : padL l (max l.length m.length + 1) = 0 :: padL l (max l.length m.length) := by
      unfold padL
      rw [show max l.length m.length + 1 - l.length = (max l.length m.length - l.length) + 1 by omega, List.replicate_succ]; rfl
    have e2 : padL m (max l.length m.length + 1) = 0 :: padL m (max l.length m.length) := by
      unfold padL
      rw [show max l.length m.length + 1 - m.length = (max l.length m.length - m.length) + 1 by omega, List.replicate_succ]; rfl
    have h5 := add_low (padL l (max l.length m.length)) (padL m (max l.length m.length)) (pad_wf _ hl) (pad_wf _ hm)
    rw [e1, e2]
    simp only [addC]
    omega
  rw [h4] at h3
  exact h3
theorem plus_wf (l m : List Int) : WfB (plusL l m) := add_wf _ _
theorem plus_len (l m : List Int) : (plusL l m).length = max l.length m.length + 1 := by
  have h1 := pad_len l (max l.length m.length + 1) (by omega)
  have h2 := pad_len m (max l.length m.length + 1) (by omega)
  rw [plusL, add_len _ _ (by omega), h1]

theorem plus_own (l m : List Int) (hl : l.length ≤ 99999) (hm : m.length ≤ 99999) (hwl : WfB l) (hwm : WfB m) : Ct Try.prog 83 [B8 l, B8 m] [] (.c (.own 0 1 0 (plusL l m).length)) [] [.row (.ints .u8 (plusL l m))] := by
  have hpl := plus_len l m
  have hN : max (l.length : Int) m.length + 1 = ((max l.length m.length + 1 : Nat) : Int) := by omega
  have hx0 := pad_len l (max l.length m.length + 1) (by omega)
  have hy0 := pad_len m (max l.length m.length + 1) (by omega)
  have hwx := pad_wf (max l.length m.length + 1) hwl
  have hwy := pad_wf (max l.length m.length + 1) hwm
  have hw1 := wide_ok l (max l.length m.length + 1) (by omega) (by omega)
  have hw2 := wide_ok m (max l.length m.length + 1) (by omega) (by omega)
  have hP : plusL l m = (addC (padL l (max l.length m.length + 1)) (padL m (max l.length m.length + 1))).1 := rfl
  refine Ct_intro Try.func83 rfl rfl rfl rfl rfl (fun E hn hb => ?_)
  repeat (first | refine W_seq ?_ | refine W_region ?_ | refine W_block ?_ | refine W_skip ?_ | refine W_ret ?_ | refine W_exit ?_ | refine WL_nil ?_ | refine N_then ?_ | refine N_then_exit ?_ | refine N_then_ret ?_ | refine N_block ?_ | refine N_block_ret ?_ | refine N_block_exit ?_ | refine N_block_pass rfl ?_ | refine sp true rfl rfl (by rw [hn]; rfl) (by first | trivial | (simp; done) | (simp; omega) | (simp at *; done) | (simp at *; omega)) ?_ | refine sg true rfl rfl rfl (by rw [hn]; rfl) (by intro hG; first | trivial | (simp; done) | (simp; omega) | (simp at *; done) | (simp at *; omega)) ?_)
  simp only [if_true]
  rw [hN]
  generalize plusL l m = pl at *
  generalize padL l (max l.length m.length + 1) = X at *
  generalize padL m (max l.length m.length + 1) = Y at *
  generalize hn0 : max l.length m.length + 1 = n at *
  repeat (first | refine W_seq ?_ | refine W_region ?_ | refine W_block ?_ | refine W_skip ?_ | refine W_ret ?_ | refine W_exit ?_ | refine WL_nil ?_ | refine N_then ?_ | refine N_then_exit ?_ | refine N_then_ret ?_ | refine N_block ?_ | refine N_block_ret ?_ | refine N_block_exit ?_ | refine N_block_pass rfl ?_ | refine sp true rfl rfl (by rw [hn]; rfl) (by first | trivial | (simp; done) | (simp; omega) | (simp at *; done) | (simp at *; omega)) ?_ | refine sg true rfl rfl rfl (by rw [hn]; rfl) (by intro hG; first | trivial | (simp; done) | (simp; omega) | (simp at *; done) | (simp at *; omega)) ?_)
  refine s_call1 (hw1) rfl rfl rfl (by rw [hn]; rfl) rfl rfl (by first | trivial | (simp; done) | (simp; omega) | (simp at *; done) | (simp at *; omega)) rfl rfl rfl ?_
  repeat (first | refine W_seq ?_ | refine W_region ?_ | refine W_block ?_ | refine W_skip ?_ | refine W_ret ?_ | refine W_exit ?_ | refine WL_nil ?_ | refine N_then ?_ | refine N_then_exit ?_ | refine N_then_ret ?_ | refine N_block ?_ | refine N_block_ret ?_ | refine N_block_exit ?_ | refine N_block_pass rfl ?_ | refine sp true rfl rfl (by rw [hn]; rfl) (by first | trivial | (simp; done) | (simp; omega) | (simp at *; done) | (simp at *; omega)) ?_ | refine sg true rfl rfl rfl (by rw [hn]; rfl) (by intro hG; first | trivial | (simp; done) | (simp; omega) | (simp at *; done) | (simp at *; omega)) ?_)
  refine s_call1 (hw2) rfl rfl rfl (by rw [hn]; rfl) rfl rfl (by first | trivial | (simp; done) | (simp; omega) | (simp at *; done) | (simp at *; omega)) rfl rfl rfl ?_
  repeat (first | refine W_seq ?_ | refine W_region ?_ | refine W_block ?_ | refine W_skip ?_ | refine W_ret ?_ | refine W_exit ?_ | refine WL_nil ?_ | refine N_then ?_ | refine N_then_exit ?_ | refine N_then_ret ?_ | refine N_block ?_ | refine N_block_ret ?_ | refine N_block_exit ?_ | refine N_block_pass rfl ?_ | refine sp true rfl rfl (by rw [hn]; rfl) (by first | trivial | (simp; done) | (simp; omega) | (simp at *; done) | (simp at *; omega)) ?_ | refine sg true rfl rfl rfl (by rw [hn]; rfl) (by intro hG; first | trivial | (simp; done) | (simp; omega) | (simp at *; done) | (simp at *; omega)) ?_)
  refine s_allocN rfl rfl rfl (by rw [hn]; rfl) rfl zok22 ?_
  refine s_allocN rfl rfl rfl (by rw [hn]; rfl) rfl zok22 ?_
  repeat (first | refine W_seq ?_ | refine W_region ?_ | refine W_block ?_ | refine W_skip ?_ | refine W_ret ?_ | refine W_exit ?_ | refine WL_nil ?_ | refine N_then ?_ | refine N_then_exit ?_ | refine N_then_ret ?_ | refine N_block ?_ | refine N_block_ret ?_ | refine N_block_exit ?_ | refine N_block_pass rfl ?_ | refine sp true rfl rfl (by rw [hn]; rfl) (by first | trivial | (simp; done) | (simp; omega) | (simp at *; done) | (simp at *; omega)) ?_ | refine sg true rfl rfl rfl (by rw [hn]; rfl) (by intro hG; first | trivial | (simp; done) | (simp; omega) | (simp at *; done) | (simp at *; omega)) ?_)
  refine s_storeN rfl rfl rfl rfl rfl (by first | trivial | (simp; done) | (simp; omega) | (simp at *; done) | (simp at *; omega)) rfl rfl rfl (by rw [cellsOf22]; rfl) (by rw [info22]; rfl) rfl rfl ?_
  refine s_storeN rfl rfl rfl rfl rfl (by first | trivial | (simp; done) | (simp; omega) | (simp at *; done) | (simp at *; omega)) rfl rfl rfl (by rw [cellsOf22]; rfl) (by rw [info22]; rfl) rfl rfl ?_
  repeat (first | refine W_seq ?_ | refine W_region ?_ | refine W_block ?_ | refine W_skip ?_ | refine W_ret ?_ | refine W_exit ?_ | refine WL_nil ?_ | refine N_then ?_ | refine N_then_exit ?_ | refine N_then_ret ?_ | refine N_block ?_ | refine N_block_ret ?_ | refine N_block_exit ?_ | refine N_block_pass rfl ?_ | refine sp true rfl rfl (by rw [hn]; rfl) (by first | trivial | (simp; done) | (simp; omega) | (simp at *; done) | (simp at *; omega)) ?_ | refine sg true rfl rfl rfl (by rw [hn]; rfl) (by intro hG; first | trivial | (simp; done) | (simp; omega) | (simp at *; done) | (simp at *; omega)) ?_)
  refine s_allocN rfl rfl rfl (by rw [hn]; rfl) rfl zok3 ?_
  repeat (first | refine W_seq ?_ | refine W_region ?_ | refine W_block ?_ | refine W_skip ?_ | refine W_ret ?_ | refine W_exit ?_ | refine WL_nil ?_ | refine N_then ?_ | refine N_then_exit ?_ | refine N_then_ret ?_ | refine N_block ?_ | refine N_block_ret ?_ | refine N_block_exit ?_ | refine N_block_pass rfl ?_ | refine sp true rfl rfl (by rw [hn]; rfl) (by first | trivial | (simp; done) | (simp; omega) | (simp at *; done) | (simp at *; omega)) ?_ | refine sg true rfl rfl rfl (by rw [hn]; rfl) (by intro hG; first | trivial | (simp; done) | (simp; omega) | (simp at *; done) | (simp at *; omega)) ?_)
  refine s_storeN rfl rfl rfl rfl rfl (by first | trivial | (simp; done) | (simp; omega) | (simp at *; done) | (simp at *; omega)) rfl rfl rfl (by rw [cellsOf3]; rfl) (by rw [info3]; rfl) rfl rfl ?_
  repeat (first | refine W_seq ?_ | refine W_region ?_ | refine W_block ?_ | refine W_skip ?_ | refine W_ret ?_ | refine W_exit ?_ | refine WL_nil ?_ | refine N_then ?_ | refine N_then_exit ?_ | refine N_then_ret ?_ | refine N_block ?_ | refine N_block_ret ?_ | refine N_block_exit ?_ | refine N_block_pass rfl ?_ | refine sp true rfl rfl (by rw [hn]; rfl) (by first | trivial | (simp; done) | (simp; omega) | (simp at *; done) | (simp at *; omega)) ?_ | refine sg true rfl rfl rfl (by rw [hn]; rfl) (by intro hG; first | trivial | (simp; done) | (simp; omega) | (simp at *; done) | (simp at *; omega)) ?_)
  have hn1 : n ≤ 100001 := by omega
  refine W_weaken (St.le_of (l := [(5, lv (.int .i64 (n : Int))), (6, .c (.ptr 70 0)), (9, .c (.fn (.func 104) [] [.ptr 70 0, .ptr 71 0, .ptr 72 0])), (24, lv (.int .i64 (n : Int))), (25, lv (.int .i64 0))]) (h := [(70, .cells [.own 83 1 0 n]), (71, .cells [.own 86 1 0 n]), (72, .cells [.lf (.v (.int .i64 0))]), (83, .row (.ints .u8 X)), (86, .row (.ints .u8 Y))]) (by refine ⟨?_, ?_⟩ <;> (repeat' (first | exact trivial | exact rfl | refine ⟨?_, ?_⟩)) <;> first | exact rfl | (simp; done) | skip)) ?_
  have e2 : X = X.take (n - 0) ++ (addC (X.drop (n - 0)) (Y.drop (n - 0))).1 := by
    rw [Nat.sub_zero, List.take_of_length_le (by omega), List.drop_of_length_le (by omega), List.drop_of_length_le (by omega)]; simp [addC]
  have e3 : (0 : Int) = (addC (X.drop (n - 0)) (Y.drop (n - 0))).2 := by rw [Nat.sub_zero, List.drop_of_length_le (by omega), List.drop_of_length_le (by omega)]; rfl
  refine W_weaken (τ := St.of [(5, lv (.int .i64 (n : Int))), (6, .c (.ptr 70 0)), (9, .c (.fn (.func 104) [] [.ptr 70 0, .ptr 71 0, .ptr 72 0])), (24, lv (.int .i64 (n : Int))), (25, lv (.int .i64 ((0 : Nat) : Int)))] [(70, .cells [.own 83 1 0 n]), (71, .cells [.own 86 1 0 n]), (72, .cells [.lf (.v (.int .i64 (addC (X.drop (n - 0)) (Y.drop (n - 0))).2))]), (83, .row (.ints .u8 (X.take (n - 0) ++ (addC (X.drop (n - 0)) (Y.drop (n - 0))).1))), (86, .row (.ints .u8 Y))]) ?_ ?_
  · rw [← e2, ← e3]; exact ⟨fun _ => .inl rfl, fun _ => .inl rfl⟩
  refine W_loop (ι := {k : Nat // k ≤ n}) (fun k => St.of [(5, lv (.int .i64 (n : Int))), (6, .c (.ptr 70 0)), (9, .c (.fn (.func 104) [] [.ptr 70 0, .ptr 71 0, .ptr 72 0])), (24, lv (.int .i64 (n : Int))), (25, lv (.int .i64 (k.1 : Int)))] [(70, .cells [.own 83 1 0 n]), (71, .cells [.own 86 1 0 n]), (72, .cells [.lf (.v (.int .i64 (addC (X.drop (n - k.1)) (Y.drop (n - k.1))).2))]), (83, .row (.ints .u8 (X.take (n - k.1) ++ (addC (X.drop (n - k.1)) (Y.drop (n - k.1))).1))), (86, .row (.ints .u8 Y))]) (fun k => n - k.1) (fun k => ?_) ⟨0, by omega⟩
  obtain ⟨k, hk⟩ := k
  dsimp only
  repeat (first | refine W_seq ?_ | refine W_region ?_ | refine W_block ?_ | refine W_skip ?_ | refine W_ret ?_ | refine W_exit ?_ | refine WL_nil ?_ | refine N_then ?_ | refine N_then_exit ?_ | refine N_then_ret ?_ | refine N_block ?_ | refine N_block_ret ?_ | refine N_block_exit ?_ | refine N_block_pass rfl ?_ | refine sp true rfl rfl (by rw [hn]; rfl) (by first | trivial | (simp; done) | (simp; omega) | (simp at *; done) | (simp at *; omega)) ?_ | refine sg true rfl rfl rfl (by rw [hn]; rfl) (by intro hG; first | trivial | (simp; done) | (simp; omega) | (simp at *; done) | (simp at *; omega)) ?_)
  refine W_cond rfl (by simp) (fun hq => ?_) (fun hq => ?_)
  · obtain ⟨i, hi⟩ : ∃ i, n - k = i + 1 := ⟨n - k - 1, by simp at hq; omega⟩
    have hix : i < X.length := by omega
    have hiy : i < Y.length := by omega
    have ei : n - (k + 1) = i := by omega
    have hdx : X.drop i = X[i] :: X.drop (i + 1) := List.drop_eq_getElem_cons hix
    have hdy : Y.drop i = Y[i] :: Y.drop (i + 1) := List.drop_eq_getElem_cons hiy
    have hlow := add_low (X.drop (i + 1)) (Y.drop (i + 1)) (fun x hx => hwx x (List.mem_of_mem_drop hx)) (fun x hx => hwy x (List.mem_of_mem_drop hx))
    have hadd : addC (X.drop i) (Y.drop i) = ((X[i] + Y[i] + (addC (X.drop (i + 1)) (Y.drop (i + 1))).2) % 256 :: (addC (X.drop (i + 1)) (Y.drop (i + 1))).1, (X[i] + Y[i] + (addC (X.drop (i + 1)) (Y.drop (i + 1))).2) / 256) := by
      rw [hdx, hdy]; rfl
    have hRl := add_len (X.drop (i + 1)) (Y.drop (i + 1)) (by simp; omega)
    have hRw := add_wf (X.drop (i + 1)) (Y.drop (i + 1))
    rw [hi]
    generalize hcc : (addC (X.drop (i + 1)) (Y.drop (i + 1))).2 = c at *
    generalize hRR : (addC (X.drop (i + 1)) (Y.drop (i + 1))).1 = R at *
    have hT : X.take (i + 1) = X.take i ++ [X[i]] := by rw [List.take_add_one, List.getElem?_eq_getElem hix]; rfl
    have hlt : (X.take i).length = i := by simp; omega
    have hrl : R.length = n - (i + 1) := by rw [hRl]; simp; omega
    have hLl : (X.take (i + 1) ++ R).length = n := by simp [hrl]; omega
    have hwL : WfB (X.take (i + 1) ++ R) := by
      intro x hx
      rcases List.mem_append.1 hx with h | h
      · exact hwx x (List.mem_of_mem_take h)
      · exact hRw x h
    have hgL : (X.take (i + 1) ++ R).getD i 0 = X[i] := by
      rw [List.getD_eq_getElem?_getD, hT, List.append_assoc, List.getElem?_append_right (by omega), hlt, Nat.sub_self]; rfl
    have hgY : Y.getD i 0 = Y[i] := by simp [hiy]
    have hp1 := plus1_ok (X.take (i + 1) ++ R) Y n i hLl (by omega) (by omega) hn1 hwL hwy c hlow
    rw [hgL, hgY] at hp1
    have eidx : (n : Int) - 1 - k = (i : Int) := by omega
    repeat (first | refine W_seq ?_ | refine W_region ?_ | refine W_block ?_ | refine W_skip ?_ | refine W_ret ?_ | refine W_exit ?_ | refine WL_nil ?_ | refine N_then ?_ | refine N_then_exit ?_ | refine N_then_ret ?_ | refine N_block ?_ | refine N_block_ret ?_ | refine N_block_exit ?_ | refine N_block_pass rfl ?_ | refine sp true rfl rfl (by rw [hn]; rfl) (by first | trivial | (simp; done) | (simp; omega) | (simp at *; done) | (simp at *; omega)) ?_ | refine sg true rfl rfl rfl (by rw [hn]; rfl) (by intro hG; first | trivial | (simp; done) | (simp; omega) | (simp at *; done) | (simp at *; omega)) ?_)
    rw [eidx]
    refine s_call [70, 71, 72, 83, 86] hp1 rfl rfl (by rw [hn]; rfl) rfl rfl trivial ⟨rfl, ⟨rfl, rfl, rfl, rfl, rfl⟩, by simp [ordL], rfl⟩ ?_
    repeat (first | refine W_seq ?_ | refine W_region ?_ | refine W_block ?_ | refine W_skip ?_ | refine W_ret ?_ | refine W_exit ?_ | refine WL_nil ?_ | refine N_then ?_ | refine N_then_exit ?_ | refine N_then_ret ?_ | refine N_block ?_ | refine N_block_ret ?_ | refine N_block_exit ?_ | refine N_block_pass rfl ?_ | refine sp true rfl rfl (by rw [hn]; rfl) (by first | trivial | (simp; done) | (simp; omega) | (simp at *; done) | (simp at *; omega)) ?_ | refine sg true rfl rfl rfl (by rw [hn]; rfl) (by intro hG; first | trivial | (simp; done) | (simp; omega) | (simp at *; done) | (simp at *; omega)) ?_)
    refine N_round ⟨k + 1, by omega⟩ (by dsimp only; omega) (St.le_of ⟨⟨rfl, rfl, rfl, rfl, ?_⟩, ⟨rfl, rfl, ?_, ?_, rfl⟩⟩)
    · rfl
    · show Blk.cells [.lf (.v (.int .i64 ((X[i] + Y[i] + c) / 256)))] = Blk.cells [.lf (.v (.int .i64 (addC (X.drop (n - (k + 1))) (Y.drop (n - (k + 1)))).2))]
      rw [ei, hadd]
    · show Blk.row (.ints .u8 ((X.take (i + 1) ++ R).set i ((X[i] + Y[i] + c) % 256))) = Blk.row (.ints .u8 (X.take (n - (k + 1)) ++ (addC (X.drop (n - (k + 1))) (Y.drop (n - (k + 1)))).1))
      rw [ei, hadd, hT, List.append_assoc, List.singleton_append, set_mid _ _ _ _ _ hlt]
  · have : k = n := by simp at hq; omega
    subst this
    rw [Nat.sub_self, List.take_zero, List.drop_zero, List.drop_zero, List.nil_append, ← hP]
    repeat (first | refine W_seq ?_ | refine W_region ?_ | refine W_block ?_ | refine W_skip ?_ | refine W_ret ?_ | refine W_exit ?_ | refine WL_nil ?_ | refine N_then ?_ | refine N_then_exit ?_ | refine N_then_ret ?_ | refine N_block ?_ | refine N_block_ret ?_ | refine N_block_exit ?_ | refine N_block_pass rfl ?_ | refine sp true rfl rfl (by rw [hn]; rfl) (by first | trivial | (simp; done) | (simp; omega) | (simp at *; done) | (simp at *; omega)) ?_ | refine sg true rfl rfl rfl (by rw [hn]; rfl) (by intro hG; first | trivial | (simp; done) | (simp; omega) | (simp at *; done) | (simp at *; omega)) ?_)
    have hkl : k = pl.length := by omega
    refine N_retN [83] rfl (by first | trivial | (simp; done) | (simp; omega) | (simp at *; done) | (simp at *; omega)) ⟨?_, by first | trivial | exact ⟨rfl, rfl⟩, ?_, rfl⟩ hb rfl (by first | trivial | (simp; done))
    · rw [← hkl]; rfl
    · rfl
end Go.Proofs.Ytppmfjopokkhmaa

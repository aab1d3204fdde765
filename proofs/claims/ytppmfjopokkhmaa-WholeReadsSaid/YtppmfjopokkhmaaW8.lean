/-
  Chapter 03: numbers as text, the program's way. The conditions: rows of at most a million bytes.
-/
import Derived.Test.YtppmfjopokkhmaaW7
namespace Go.Proofs.Ytppmfjopokkhmaa
set_option linter.unusedSimpArgs false
set_option linter.unusedVariables false
open Go.Sx

set_option maxRecDepth 10000

theorem tenC_app : ∀ (a : List Int) (c x : Int), tenC c (a ++ [x]) = ((tenC c a).1 ++ [(256 * (tenC c a).2 + x) / 10], (256 * (tenC c a).2 + x) % 10)
  | [], c, x => rfl
  | y :: a, c, x => by simp only [List.cons_append, tenC, tenC_app a]
theorem tenC_low : ∀ (a : List Int) (c : Int), 0 ≤ c ∧ c < 10 → 0 ≤ (tenC c a).2 ∧ (tenC c a).2 < 10
  | [], c, h => h
  | y :: a, c, h => tenC_low a _ ⟨by omega, by omega⟩

theorem tenth_ok (l : List Int) (hl : l.length ≤ 1000000) (hw : WfB l) : Ct Try.prog 72 [.c (.own 0 1 0 l.length)] [.row (.ints .u8 l)] (lv (.int .u8 (tenC 0 l).2)) [.row (.ints .u8 (tenC 0 l).1)] [] := by
  refine Ct_intro Try.func72 rfl rfl rfl rfl rfl (fun E hn hb => ?_)
  repeat (first | refine W_seq ?_ | refine W_region ?_ | refine W_block ?_ | refine W_skip ?_ | refine W_ret ?_ | refine W_exit ?_ | refine WL_nil ?_ | refine N_then ?_ | refine N_then_exit ?_ | refine N_then_ret ?_ | refine N_block ?_ | refine N_block_ret ?_ | refine N_block_exit ?_ | refine N_block_pass rfl ?_ | refine sp true rfl rfl (by rw [hn]; rfl) (by first | trivial | (simp; done) | (simp; omega) | (simp at *; done) | (simp at *; omega)) ?_ | refine sg true rfl rfl rfl (by rw [hn]; rfl) (by intro hG; first | trivial | (simp; done) | (simp; omega) | (simp at *; done) | (simp at *; omega)) ?_)
  refine W_weaken (St.le_of (l := [(0, .c (.own 0 1 0 l.length)), (3, lv (.int .i64 0)), (7, .c (.own 0 1 0 l.length)), (8, lv (.int .i64 (l.length : Int))), (9, lv (.int .i64 0))]) (h := [(0, .row (.ints .u8 l))]) (by refine ⟨?_, ?_⟩ <;> (repeat' (first | exact trivial | exact rfl | refine ⟨?_, ?_⟩)) <;> first | exact rfl | (simp; done) | skip)) ?_
  refine W_loop (ι := {i : Nat // i ≤ l.length}) (fun i => St.of [(0, .c (.own 0 1 0 l.length)), (3, lv (.int .i64 (tenC 0 (l.take i.1)).2)), (7, .c (.own 0 1 0 l.length)), (8, lv (.int .i64 (l.length : Int))), (9, lv (.int .i64 (i.1 : Int)))] [(0, .row (.ints .u8 ((tenC 0 (l.take i.1)).1 ++ l.drop i.1)))]) (fun i => l.length - i.1) (fun i => ?_) ⟨0, by omega⟩
  obtain ⟨i, hi⟩ := i
  dsimp only
  have hlow := tenC_low (l.take i) 0 (by omega)
  have hAl : (tenC 0 (l.take i)).1.length = i := by rw [tenC_len]; simp; omega
  have hApp := tenC_app (l.take i) 0
  generalize hc0 : (tenC 0 (l.take i)).2 = c at *
  generalize hA0 : (tenC 0 (l.take i)).1 = A at *
  repeat (first | refine W_seq ?_ | refine W_region ?_ | refine W_block ?_ | refine W_skip ?_ | refine W_ret ?_ | refine W_exit ?_ | refine WL_nil ?_ | refine N_then ?_ | refine N_then_exit ?_ | refine N_then_ret ?_ | refine N_block ?_ | refine N_block_ret ?_ | refine N_block_exit ?_ | refine N_block_pass rfl ?_ | refine sp true rfl rfl (by rw [hn]; rfl) (by first | trivial | (simp; done) | (simp; omega) | (simp at *; done) | (simp at *; omega)) ?_ | refine sg true rfl rfl rfl (by rw [hn]; rfl) (by intro hG; first | trivial | (simp; done) | (simp; omega) | (simp at *; done) | (simp at *; omega)) ?_)
  refine W_cond rfl (by simp) (fun hc => ?_) (fun hc => ?_)
  · have hi8 : i < l.length := by simp at hc; omega
    have hx := hw l[i] (List.getElem_mem hi8)
    have hd : l.drop i = l[i] :: l.drop (i + 1) := List.drop_eq_getElem_cons hi8
    have hL : (A ++ l.drop i).length = l.length := by simp; omega
    have hg : (A ++ l.drop i).getD (0 + (i : Int).toNat) 0 = l[i] := by
      rw [hd]; simp [List.getElem?_append_right, hAl, hi8]
    have e8 : c * 2 ^ min (Int.toNat 8) IntKind.i64.bits = 256 * c := by
      have : min (Int.toNat 8) IntKind.i64.bits = 8 := by decide
      rw [this]; omega
    repeat (first | refine W_seq ?_ | refine W_region ?_ | refine W_block ?_ | refine W_skip ?_ | refine W_ret ?_ | refine W_exit ?_ | refine WL_nil ?_ | refine N_then ?_ | refine N_then_exit ?_ | refine N_then_ret ?_ | refine N_block ?_ | refine N_block_ret ?_ | refine N_block_exit ?_ | refine N_block_pass rfl ?_ | refine sp true rfl rfl (by rw [hn]; rfl) (by first | trivial | (simp; done) | (simp; omega) | (simp at *; done) | (simp at *; omega)) ?_ | refine sg true rfl rfl rfl (by rw [hn]; rfl) (by intro hG; first | trivial | (simp; done) | (simp; omega) | (simp at *; done) | (simp at *; omega)) ?_)
    rw [hg]
    rw [e8]
    rw [or_shl c l[i] hlow hx]
    repeat (first | refine W_seq ?_ | refine W_region ?_ | refine W_block ?_ | refine W_skip ?_ | refine W_ret ?_ | refine W_exit ?_ | refine WL_nil ?_ | refine N_then ?_ | refine N_then_exit ?_ | refine N_then_ret ?_ | refine N_block ?_ | refine N_block_ret ?_ | refine N_block_exit ?_ | refine N_block_pass rfl ?_ | refine sp true rfl rfl (by rw [hn]; rfl) (by first | trivial | (simp; done) | (simp; omega) | (simp at *; done) | (simp at *; omega)) ?_ | refine sg true rfl rfl rfl (by rw [hn]; rfl) (by intro hG; first | trivial | (simp; done) | (simp; omega) | (simp at *; done) | (simp at *; omega)) ?_)
    refine s_storeI rfl rfl rfl rfl rfl (by first | trivial | (simp; done) | (simp; omega) | (simp at *; done) | (simp at *; omega)) rfl (by rw [cellsOf5]) (by first | (simp; done) | (simp; omega) | (simp at *; omega)) ?_
    repeat (first | refine W_seq ?_ | refine W_region ?_ | refine W_block ?_ | refine W_skip ?_ | refine W_ret ?_ | refine W_exit ?_ | refine WL_nil ?_ | refine N_then ?_ | refine N_then_exit ?_ | refine N_then_ret ?_ | refine N_block ?_ | refine N_block_ret ?_ | refine N_block_exit ?_ | refine N_block_pass rfl ?_ | refine sp true rfl rfl (by rw [hn]; rfl) (by first | trivial | (simp; done) | (simp; omega) | (simp at *; done) | (simp at *; omega)) ?_ | refine sg true rfl rfl rfl (by rw [hn]; rfl) (by intro hG; first | trivial | (simp; done) | (simp; omega) | (simp at *; done) | (simp at *; omega)) ?_)
    have hT : l.take (i + 1) = l.take i ++ [l[i]] := by rw [List.take_add_one, List.getElem?_eq_getElem hi8]; rfl
    refine N_round ⟨i + 1, by omega⟩ (by dsimp only; omega) (St.le_of ⟨⟨rfl, ?_, rfl, rfl, rfl⟩, ?_⟩)
    · show lv (.int .i64 ((256 * c + l[i]) % 10)) = lv (.int .i64 (tenC 0 (l.take (i + 1))).2)
      rw [hT, hApp]
    · show Blk.row (.ints .u8 ((A ++ l.drop i).set (0 + (i : Int).toNat) ((256 * c + l[i]) / 10))) = Blk.row (.ints .u8 ((tenC 0 (l.take (i + 1))).1 ++ l.drop (i + 1)))
      rw [hT, hApp, hd, set_mid _ _ _ _ _ (by rw [hAl]; simp)]
      simp
  · have : i = l.length := by simp at hc; omega
    subst this
    repeat (first | refine W_seq ?_ | refine W_region ?_ | refine W_block ?_ | refine W_skip ?_ | refine W_ret ?_ | refine W_exit ?_ | refine WL_nil ?_ | refine N_then ?_ | refine N_then_exit ?_ | refine N_then_ret ?_ | refine N_block ?_ | refine N_block_ret ?_ | refine N_block_exit ?_ | refine N_block_pass rfl ?_ | refine sp true rfl rfl (by rw [hn]; rfl) (by first | trivial | (simp; done) | (simp; omega) | (simp at *; done) | (simp at *; omega)) ?_ | refine sg true rfl rfl rfl (by rw [hn]; rfl) (by intro hG; first | trivial | (simp; done) | (simp; omega) | (simp at *; done) | (simp at *; omega)) ?_)
    rw [List.take_length] at hc0 hA0
    refine N_retN [] rfl trivial ⟨?_, ?_, trivial, rfl⟩ hb rfl (by simp [ordL])
    · rw [hc0]; rfl
    · show Blk.row (.ints .u8 (A ++ l.drop l.length)) = Blk.row (.ints .u8 (tenC 0 l).1)
      rw [hA0, List.drop_length, List.append_nil]
end Go.Proofs.Ytppmfjopokkhmaa

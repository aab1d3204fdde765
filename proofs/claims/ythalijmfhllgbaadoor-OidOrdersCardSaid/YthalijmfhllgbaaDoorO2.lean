/-
  Numbers below 100 as text: those that the chapter's examples need. (printed by O2.py)
-/
import Derived.Test.YthalijmfhllgbaaDoorO1
namespace Go.Proofs.YthalijmfhllgbaaDoor
set_option linter.unusedSimpArgs false
set_option linter.unusedVariables false
open Go.Sx

set_option maxRecDepth 10000

theorem small_2 : Ct Tryd.prog 88 [lv (.int .i64 2)] [] (lv (.string (ByteArray.mk #[50]))) [] [] := by
  refine Ct_intro Tryd.func88 rfl rfl rfl rfl rfl (fun E hn hb => ?_)
  repeat (first | refine stp ?_ | refine N_block_pass rfl ?_ | refine sp1 ?_ | refine sg1 ?_ | refine WL_nil ?_)
  refine W_cond rfl (by simp) (fun h1 => ?_) (fun h1 => ?_)
  · repeat (first | refine stp ?_ | refine N_block_pass rfl ?_ | refine sp1 ?_ | refine sg1 ?_ | refine WL_nil ?_)
    refine sp true rfl rfl (by rw [hn]; rfl) ?_ ?_
    · refine ⟨by decide, by decide, ?_⟩; show (_ : Int) ≤ _; decide +kernel
    · repeat (first | refine stp ?_ | refine N_block_pass rfl ?_ | refine sp1 ?_ | refine sg1 ?_ | refine WL_nil ?_)
      refine N_retN [] rfl trivial ⟨congrArg (fun s => lv (.string s)) (by decide +kernel), trivial, trivial, rfl⟩ hb rfl trivial
  · exact absurd h1 (by decide)
theorem itoa_2 : Ct Tryd.prog 38 [lv (.int .i64 2)] [] (lv (.string (ByteArray.mk #[50]))) [] [] := by
  have hs := small_2
  have hF : Ct Tryd.prog 77 [lv (.int .i64 2), lv (.int .i64 10)] [] (lv (.string (ByteArray.mk #[50]))) [] [] := by
    refine Ct_intro Tryd.func77 rfl rfl rfl rfl rfl (fun E hn hb => ?_)
    repeat (first | refine stp ?_ | refine N_block_pass rfl ?_ | refine sp1 ?_ | refine sg1 ?_ | refine WL_nil ?_)
    refine W_cond rfl (by simp) (fun h1 => ?_) (fun h1 => ?_)
    · repeat (first | refine stp ?_ | refine N_block_pass rfl ?_ | refine sp1 ?_ | refine sg1 ?_ | refine WL_nil ?_)
      refine W_cond rfl (by simp) (fun h2 => ?_) (fun h2 => ?_)
      · repeat (first | refine stp ?_ | refine N_block_pass rfl ?_ | refine sp1 ?_ | refine sg1 ?_ | refine WL_nil ?_)
        refine s_call0 hs rfl rfl rfl (by rw [hn]; rfl) rfl rfl (by first | trivial | (simp; done) | (simp; omega) | (simp at *; done) | (simp at *; omega)) rfl rfl rfl ?_
        repeat (first | refine stp ?_ | refine N_block_pass rfl ?_ | refine sp1 ?_ | refine sg1 ?_ | refine WL_nil ?_)
        exact rt1 []
      · exact absurd h2 (by decide)
    · exact absurd h1 (by decide)
  have hI : Ct Tryd.prog 60 [lv (.int .i64 2)] [] (lv (.string (ByteArray.mk #[50]))) [] [] := by
    refine Ct_intro Tryd.func60 rfl rfl rfl rfl rfl (fun E hn hb => ?_)
    repeat (first | refine stp ?_ | refine N_block_pass rfl ?_ | refine sp1 ?_ | refine sg1 ?_ | refine WL_nil ?_)
    refine s_call0 hF rfl rfl rfl (by rw [hn]; rfl) rfl rfl (by first | trivial | (simp; done) | (simp; omega) | (simp at *; done) | (simp at *; omega)) rfl rfl rfl ?_
    repeat (first | refine stp ?_ | refine N_block_pass rfl ?_ | refine sp1 ?_ | refine sg1 ?_ | refine WL_nil ?_)
    exact rt1 []
  refine Ct_intro Tryd.func38 rfl rfl rfl rfl rfl (fun E hn hb => ?_)
  repeat (first | refine stp ?_ | refine N_block_pass rfl ?_ | refine sp1 ?_ | refine sg1 ?_ | refine WL_nil ?_)
  refine s_call0 hI rfl rfl rfl (by rw [hn]; rfl) rfl rfl (by first | trivial | (simp; done) | (simp; omega) | (simp at *; done) | (simp at *; omega)) rfl rfl rfl ?_
  repeat (first | refine stp ?_ | refine N_block_pass rfl ?_ | refine sp1 ?_ | refine sg1 ?_ | refine WL_nil ?_)
  exact rt1 []
theorem small_5 : Ct Tryd.prog 88 [lv (.int .i64 5)] [] (lv (.string (ByteArray.mk #[53]))) [] [] := by
  refine Ct_intro Tryd.func88 rfl rfl rfl rfl rfl (fun E hn hb => ?_)
  repeat (first | refine stp ?_ | refine N_block_pass rfl ?_ | refine sp1 ?_ | refine sg1 ?_ | refine WL_nil ?_)
  refine W_cond rfl (by simp) (fun h1 => ?_) (fun h1 => ?_)
  · repeat (first | refine stp ?_ | refine N_block_pass rfl ?_ | refine sp1 ?_ | refine sg1 ?_ | refine WL_nil ?_)
    refine sp true rfl rfl (by rw [hn]; rfl) ?_ ?_
    · refine ⟨by decide, by decide, ?_⟩; show (_ : Int) ≤ _; decide +kernel
    · repeat (first | refine stp ?_ | refine N_block_pass rfl ?_ | refine sp1 ?_ | refine sg1 ?_ | refine WL_nil ?_)
      refine N_retN [] rfl trivial ⟨congrArg (fun s => lv (.string s)) (by decide +kernel), trivial, trivial, rfl⟩ hb rfl trivial
  · exact absurd h1 (by decide)
theorem itoa_5 : Ct Tryd.prog 38 [lv (.int .i64 5)] [] (lv (.string (ByteArray.mk #[53]))) [] [] := by
  have hs := small_5
  have hF : Ct Tryd.prog 77 [lv (.int .i64 5), lv (.int .i64 10)] [] (lv (.string (ByteArray.mk #[53]))) [] [] := by
    refine Ct_intro Tryd.func77 rfl rfl rfl rfl rfl (fun E hn hb => ?_)
    repeat (first | refine stp ?_ | refine N_block_pass rfl ?_ | refine sp1 ?_ | refine sg1 ?_ | refine WL_nil ?_)
    refine W_cond rfl (by simp) (fun h1 => ?_) (fun h1 => ?_)
    · repeat (first | refine stp ?_ | refine N_block_pass rfl ?_ | refine sp1 ?_ | refine sg1 ?_ | refine WL_nil ?_)
      refine W_cond rfl (by simp) (fun h2 => ?_) (fun h2 => ?_)
      · repeat (first | refine stp ?_ | refine N_block_pass rfl ?_ | refine sp1 ?_ | refine sg1 ?_ | refine WL_nil ?_)
        refine s_call0 hs rfl rfl rfl (by rw [hn]; rfl) rfl rfl (by first | trivial | (simp; done) | (simp; omega) | (simp at *; done) | (simp at *; omega)) rfl rfl rfl ?_
        repeat (first | refine stp ?_ | refine N_block_pass rfl ?_ | refine sp1 ?_ | refine sg1 ?_ | refine WL_nil ?_)
        exact rt1 []
      · exact absurd h2 (by decide)
    · exact absurd h1 (by decide)
  have hI : Ct Tryd.prog 60 [lv (.int .i64 5)] [] (lv (.string (ByteArray.mk #[53]))) [] [] := by
    refine Ct_intro Tryd.func60 rfl rfl rfl rfl rfl (fun E hn hb => ?_)
    repeat (first | refine stp ?_ | refine N_block_pass rfl ?_ | refine sp1 ?_ | refine sg1 ?_ | refine WL_nil ?_)
    refine s_call0 hF rfl rfl rfl (by rw [hn]; rfl) rfl rfl (by first | trivial | (simp; done) | (simp; omega) | (simp at *; done) | (simp at *; omega)) rfl rfl rfl ?_
    repeat (first | refine stp ?_ | refine N_block_pass rfl ?_ | refine sp1 ?_ | refine sg1 ?_ | refine WL_nil ?_)
    exact rt1 []
  refine Ct_intro Tryd.func38 rfl rfl rfl rfl rfl (fun E hn hb => ?_)
  repeat (first | refine stp ?_ | refine N_block_pass rfl ?_ | refine sp1 ?_ | refine sg1 ?_ | refine WL_nil ?_)
  refine s_call0 hI rfl rfl rfl (by rw [hn]; rfl) rfl rfl (by first | trivial | (simp; done) | (simp; omega) | (simp at *; done) | (simp at *; omega)) rfl rfl rfl ?_
  repeat (first | refine stp ?_ | refine N_block_pass rfl ?_ | refine sp1 ?_ | refine sg1 ?_ | refine WL_nil ?_)
  exact rt1 []
theorem small_29 : Ct Tryd.prog 88 [lv (.int .i64 29)] [] (lv (.string (ByteArray.mk #[50, 57]))) [] [] := by
  refine Ct_intro Tryd.func88 rfl rfl rfl rfl rfl (fun E hn hb => ?_)
  repeat (first | refine stp ?_ | refine N_block_pass rfl ?_ | refine sp1 ?_ | refine sg1 ?_ | refine WL_nil ?_)
  refine W_cond rfl (by simp) (fun h1 => ?_) (fun h1 => ?_)
  · exact absurd h1 (by decide)
  · repeat (first | refine stp ?_ | refine N_block_pass rfl ?_ | refine sp1 ?_ | refine sg1 ?_ | refine WL_nil ?_)
    refine sp true rfl rfl (by rw [hn]; rfl) ?_ ?_
    · refine ⟨by decide, by decide, ?_⟩; show (_ : Int) ≤ _; decide +kernel
    · repeat (first | refine stp ?_ | refine N_block_pass rfl ?_ | refine sp1 ?_ | refine sg1 ?_ | refine WL_nil ?_)
      refine N_retN [] rfl trivial ⟨congrArg (fun s => lv (.string s)) (by decide +kernel), trivial, trivial, rfl⟩ hb rfl trivial
theorem itoa_29 : Ct Tryd.prog 38 [lv (.int .i64 29)] [] (lv (.string (ByteArray.mk #[50, 57]))) [] [] := by
  have hs := small_29
  have hF : Ct Tryd.prog 77 [lv (.int .i64 29), lv (.int .i64 10)] [] (lv (.string (ByteArray.mk #[50, 57]))) [] [] := by
    refine Ct_intro Tryd.func77 rfl rfl rfl rfl rfl (fun E hn hb => ?_)
    repeat (first | refine stp ?_ | refine N_block_pass rfl ?_ | refine sp1 ?_ | refine sg1 ?_ | refine WL_nil ?_)
    refine W_cond rfl (by simp) (fun h1 => ?_) (fun h1 => ?_)
    · repeat (first | refine stp ?_ | refine N_block_pass rfl ?_ | refine sp1 ?_ | refine sg1 ?_ | refine WL_nil ?_)
      refine W_cond rfl (by simp) (fun h2 => ?_) (fun h2 => ?_)
      · repeat (first | refine stp ?_ | refine N_block_pass rfl ?_ | refine sp1 ?_ | refine sg1 ?_ | refine WL_nil ?_)
        refine s_call0 hs rfl rfl rfl (by rw [hn]; rfl) rfl rfl (by first | trivial | (simp; done) | (simp; omega) | (simp at *; done) | (simp at *; omega)) rfl rfl rfl ?_
        repeat (first | refine stp ?_ | refine N_block_pass rfl ?_ | refine sp1 ?_ | refine sg1 ?_ | refine WL_nil ?_)
        exact rt1 []
      · exact absurd h2 (by decide)
    · exact absurd h1 (by decide)
  have hI : Ct Tryd.prog 60 [lv (.int .i64 29)] [] (lv (.string (ByteArray.mk #[50, 57]))) [] [] := by
    refine Ct_intro Tryd.func60 rfl rfl rfl rfl rfl (fun E hn hb => ?_)
    repeat (first | refine stp ?_ | refine N_block_pass rfl ?_ | refine sp1 ?_ | refine sg1 ?_ | refine WL_nil ?_)
    refine s_call0 hF rfl rfl rfl (by rw [hn]; rfl) rfl rfl (by first | trivial | (simp; done) | (simp; omega) | (simp at *; done) | (simp at *; omega)) rfl rfl rfl ?_
    repeat (first | refine stp ?_ | refine N_block_pass rfl ?_ | refine sp1 ?_ | refine sg1 ?_ | refine WL_nil ?_)
    exact rt1 []
  refine Ct_intro Tryd.func38 rfl rfl rfl rfl rfl (fun E hn hb => ?_)
  repeat (first | refine stp ?_ | refine N_block_pass rfl ?_ | refine sp1 ?_ | refine sg1 ?_ | refine WL_nil ?_)
  refine s_call0 hI rfl rfl rfl (by rw [hn]; rfl) rfl rfl (by first | trivial | (simp; done) | (simp; omega) | (simp at *; done) | (simp at *; omega)) rfl rfl rfl ?_
  repeat (first | refine stp ?_ | refine N_block_pass rfl ?_ | refine sp1 ?_ | refine sg1 ?_ | refine WL_nil ?_)
  exact rt1 []
theorem small_20 : Ct Tryd.prog 88 [lv (.int .i64 20)] [] (lv (.string (ByteArray.mk #[50, 48]))) [] [] := by
  refine Ct_intro Tryd.func88 rfl rfl rfl rfl rfl (fun E hn hb => ?_)
  repeat (first | refine stp ?_ | refine N_block_pass rfl ?_ | refine sp1 ?_ | refine sg1 ?_ | refine WL_nil ?_)
  refine W_cond rfl (by simp) (fun h1 => ?_) (fun h1 => ?_)
  · exact absurd h1 (by decide)
  · repeat (first | refine stp ?_ | refine N_block_pass rfl ?_ | refine sp1 ?_ | refine sg1 ?_ | refine WL_nil ?_)
    refine sp true rfl rfl (by rw [hn]; rfl) ?_ ?_
    · refine ⟨by decide, by decide, ?_⟩; show (_ : Int) ≤ _; decide +kernel
    · repeat (first | refine stp ?_ | refine N_block_pass rfl ?_ | refine sp1 ?_ | refine sg1 ?_ | refine WL_nil ?_)
      refine N_retN [] rfl trivial ⟨congrArg (fun s => lv (.string s)) (by decide +kernel), trivial, trivial, rfl⟩ hb rfl trivial
theorem itoa_20 : Ct Tryd.prog 38 [lv (.int .i64 20)] [] (lv (.string (ByteArray.mk #[50, 48]))) [] [] := by
  have hs := small_20
  have hF : Ct Tryd.prog 77 [lv (.int .i64 20), lv (.int .i64 10)] [] (lv (.string (ByteArray.mk #[50, 48]))) [] [] := by
    refine Ct_intro Tryd.func77 rfl rfl rfl rfl rfl (fun E hn hb => ?_)
    repeat (first | refine stp ?_ | refine N_block_pass rfl ?_ | refine sp1 ?_ | refine sg1 ?_ | refine WL_nil ?_)
    refine W_cond rfl (by simp) (fun h1 => ?_) (fun h1 => ?_)
    · repeat (first | refine stp ?_ | refine N_block_pass rfl ?_ | refine sp1 ?_ | refine sg1 ?_ | refine WL_nil ?_)
      refine W_cond rfl (by simp) (fun h2 => ?_) (fun h2 => ?_)
      · repeat (first | refine stp ?_ | refine N_block_pass rfl ?_ | refine sp1 ?_ | refine sg1 ?_ | refine WL_nil ?_)
        refine s_call0 hs rfl rfl rfl (by rw [hn]; rfl) rfl rfl (by first | trivial | (simp; done) | (simp; omega) | (simp at *; done) | (simp at *; omega)) rfl rfl rfl ?_
        repeat (first | refine stp ?_ | refine N_block_pass rfl ?_ | refine sp1 ?_ | refine sg1 ?_ | refine WL_nil ?_)
        exact rt1 []
      · exact absurd h2 (by decide)
    · exact absurd h1 (by decide)
  have hI : Ct Tryd.prog 60 [lv (.int .i64 20)] [] (lv (.string (ByteArray.mk #[50, 48]))) [] [] := by
    refine Ct_intro Tryd.func60 rfl rfl rfl rfl rfl (fun E hn hb => ?_)
    repeat (first | refine stp ?_ | refine N_block_pass rfl ?_ | refine sp1 ?_ | refine sg1 ?_ | refine WL_nil ?_)
    refine s_call0 hF rfl rfl rfl (by rw [hn]; rfl) rfl rfl (by first | trivial | (simp; done) | (simp; omega) | (simp at *; done) | (simp at *; omega)) rfl rfl rfl ?_
    repeat (first | refine stp ?_ | refine N_block_pass rfl ?_ | refine sp1 ?_ | refine sg1 ?_ | refine WL_nil ?_)
    exact rt1 []
  refine Ct_intro Tryd.func38 rfl rfl rfl rfl rfl (fun E hn hb => ?_)
  repeat (first | refine stp ?_ | refine N_block_pass rfl ?_ | refine sp1 ?_ | refine sg1 ?_ | refine WL_nil ?_)
  refine s_call0 hI rfl rfl rfl (by rw [hn]; rfl) rfl rfl (by first | trivial | (simp; done) | (simp; omega) | (simp at *; done) | (simp at *; omega)) rfl rfl rfl ?_
  repeat (first | refine stp ?_ | refine N_block_pass rfl ?_ | refine sp1 ?_ | refine sg1 ?_ | refine WL_nil ?_)
  exact rt1 []
end Go.Proofs.YthalijmfhllgbaaDoor

/-
  Chapter 03, further functions. The conditions: rows of at most a million bytes.
-/
import Derived.Test.YtppmfjopokkhmaaW1
namespace Go.Proofs.Ytppmfjopokkhmaa
set_option linter.unusedSimpArgs false
set_option linter.unusedVariables false
open Go.Sx

set_option maxRecDepth 10000

def rightB (b : Bool) : List Int → Bool
  | [] => !b
  | x :: _ => x != 0
theorem right_ok (b : Bool) (l : List Int) (hl : l.length ≤ 1000000) : Ct Try.prog 23 [numA b l] [] (lv (.bool (rightB b l))) [] [] := by
  refine Ct_intro Try.func23 rfl rfl rfl rfl rfl (fun E hn hb => ?_)
  repeat (first | refine W_seq ?_ | refine W_region ?_ | refine W_block ?_ | refine W_skip ?_ | refine W_ret ?_ | refine W_exit ?_ | refine WL_nil ?_ | refine N_then ?_ | refine N_then_exit ?_ | refine N_then_ret ?_ | refine N_block ?_ | refine N_block_ret ?_ | refine N_block_exit ?_ | refine N_block_pass rfl ?_ | refine sp true rfl rfl (by rw [hn]; rfl) (by first | trivial | (simp; done) | (simp; omega) | (simp at *; done) | (simp at *; omega)) ?_ | refine sg true rfl rfl rfl (by rw [hn]; rfl) (by intro hG; first | trivial | (simp; done) | (simp; omega) | (simp at *; done) | (simp at *; omega)) ?_)
  refine s_boxN rfl rfl rfl (by rw [hn]; rfl) rfl (by first | trivial | (simp; done) | (simp; omega) | (simp at *; done) | (simp at *; omega)) rfl rfl ?_
  repeat (first | refine W_seq ?_ | refine W_region ?_ | refine W_block ?_ | refine W_skip ?_ | refine W_ret ?_ | refine W_exit ?_ | refine WL_nil ?_ | refine N_then ?_ | refine N_then_exit ?_ | refine N_then_ret ?_ | refine N_block ?_ | refine N_block_ret ?_ | refine N_block_exit ?_ | refine N_block_pass rfl ?_ | refine sp true rfl rfl (by rw [hn]; rfl) (by first | trivial | (simp; done) | (simp; omega) | (simp at *; done) | (simp at *; omega)) ?_ | refine sg true rfl rfl rfl (by rw [hn]; rfl) (by intro hG; first | trivial | (simp; done) | (simp; omega) | (simp at *; done) | (simp at *; omega)) ?_)
  refine W_cond rfl (by simp) (fun hc => ?_) (fun hc => ?_)
  · repeat (first | refine W_seq ?_ | refine W_region ?_ | refine W_block ?_ | refine W_skip ?_ | refine W_ret ?_ | refine W_exit ?_ | refine WL_nil ?_ | refine N_then ?_ | refine N_then_exit ?_ | refine N_then_ret ?_ | refine N_block ?_ | refine N_block_ret ?_ | refine N_block_exit ?_ | refine N_block_pass rfl ?_ | refine sp true rfl rfl (by rw [hn]; rfl) (by first | trivial | (simp; done) | (simp; omega) | (simp at *; done) | (simp at *; omega)) ?_ | refine sg true rfl rfl rfl (by rw [hn]; rfl) (by intro hG; first | trivial | (simp; done) | (simp; omega) | (simp at *; done) | (simp at *; omega)) ?_)
    refine N_retN [] rfl (by first | trivial | (simp; done) | (simp; omega) | (simp at *; done) | (simp at *; omega)) ⟨?_, by first | trivial | exact ⟨rfl, rfl⟩, ?_, rfl⟩ hb rfl (by first | trivial | (simp; done) | (simp [ordL]; done))
    · simp at hc
      subst hc
      rfl
    · trivial
  · match l, hc with
    | x :: l, hc =>
    simp at hl
    repeat (first | refine W_seq ?_ | refine W_region ?_ | refine W_block ?_ | refine W_skip ?_ | refine W_ret ?_ | refine W_exit ?_ | refine WL_nil ?_ | refine N_then ?_ | refine N_then_exit ?_ | refine N_then_ret ?_ | refine N_block ?_ | refine N_block_ret ?_ | refine N_block_exit ?_ | refine N_block_pass rfl ?_ | refine sp true rfl rfl (by rw [hn]; rfl) (by first | trivial | (simp; done) | (simp; omega) | (simp at *; done) | (simp at *; omega)) ?_ | refine sg true rfl rfl rfl (by rw [hn]; rfl) (by intro hG; first | trivial | (simp; done) | (simp; omega) | (simp at *; done) | (simp at *; omega)) ?_)
    refine N_retN [] rfl (by first | trivial | (simp; done) | (simp; omega) | (simp at *; done) | (simp at *; omega)) ⟨?_, by first | trivial | exact ⟨rfl, rfl⟩, ?_, rfl⟩ hb rfl (by first | trivial | (simp; done) | (simp [ordL]; done))
    · rfl
    · trivial

theorem refright_ok (b : Bool) (l : List Int) (hl : l.length ≤ 1000000) : Ct Try.prog 24 [numA b l] [] (lv (.bool (rightB b l))) [] [] := by
  match l, hl with
  | [], hl =>
    refine Ct_intro Try.func24 rfl rfl rfl rfl rfl (fun E hn hb => ?_)
    repeat (first | refine W_seq ?_ | refine W_region ?_ | refine W_block ?_ | refine W_skip ?_ | refine W_ret ?_ | refine W_exit ?_ | refine WL_nil ?_ | refine N_then ?_ | refine N_then_exit ?_ | refine N_then_ret ?_ | refine N_block ?_ | refine N_block_ret ?_ | refine N_block_exit ?_ | refine N_block_pass rfl ?_ | refine sp true rfl rfl (by rw [hn]; rfl) (by first | trivial | (simp; done) | (simp; omega) | (simp at *; done) | (simp at *; omega)) ?_ | refine sg true rfl rfl rfl (by rw [hn]; rfl) (by intro hG; first | trivial | (simp; done) | (simp; omega) | (simp at *; done) | (simp at *; omega)) ?_)
    refine s_boxN rfl rfl rfl (by rw [hn]; rfl) rfl (by first | trivial | (simp; done) | (simp; omega) | (simp at *; done) | (simp at *; omega)) rfl rfl ?_
    repeat (first | refine W_seq ?_ | refine W_region ?_ | refine W_block ?_ | refine W_skip ?_ | refine W_ret ?_ | refine W_exit ?_ | refine WL_nil ?_ | refine N_then ?_ | refine N_then_exit ?_ | refine N_then_ret ?_ | refine N_block ?_ | refine N_block_ret ?_ | refine N_block_exit ?_ | refine N_block_pass rfl ?_ | refine sp true rfl rfl (by rw [hn]; rfl) (by first | trivial | (simp; done) | (simp; omega) | (simp at *; done) | (simp at *; omega)) ?_ | refine sg true rfl rfl rfl (by rw [hn]; rfl) (by intro hG; first | trivial | (simp; done) | (simp; omega) | (simp at *; done) | (simp at *; omega)) ?_)
    refine N_retN [] rfl (by first | trivial | (simp; done) | (simp; omega) | (simp at *; done) | (simp at *; omega)) ⟨?_, by first | trivial | exact ⟨rfl, rfl⟩, ?_, rfl⟩ hb rfl (by first | trivial | (simp; done) | (simp [ordL]; done))
    · cases b <;> rfl
    · trivial
  | x :: l, hl =>
    simp at hl
    refine Ct_intro Try.func24 rfl rfl rfl rfl rfl (fun E hn hb => ?_)
    repeat (first | refine W_seq ?_ | refine W_region ?_ | refine W_block ?_ | refine W_skip ?_ | refine W_ret ?_ | refine W_exit ?_ | refine WL_nil ?_ | refine N_then ?_ | refine N_then_exit ?_ | refine N_then_ret ?_ | refine N_block ?_ | refine N_block_ret ?_ | refine N_block_exit ?_ | refine N_block_pass rfl ?_ | refine sp true rfl rfl (by rw [hn]; rfl) (by first | trivial | (simp; done) | (simp; omega) | (simp at *; done) | (simp at *; omega)) ?_ | refine sg true rfl rfl rfl (by rw [hn]; rfl) (by intro hG; first | trivial | (simp; done) | (simp; omega) | (simp at *; done) | (simp at *; omega)) ?_)
    refine s_boxN rfl rfl rfl (by rw [hn]; rfl) rfl (by first | trivial | (simp; done) | (simp; omega) | (simp at *; done) | (simp at *; omega)) rfl rfl ?_
    repeat (first | refine W_seq ?_ | refine W_region ?_ | refine W_block ?_ | refine W_skip ?_ | refine W_ret ?_ | refine W_exit ?_ | refine WL_nil ?_ | refine N_then ?_ | refine N_then_exit ?_ | refine N_then_ret ?_ | refine N_block ?_ | refine N_block_ret ?_ | refine N_block_exit ?_ | refine N_block_pass rfl ?_ | refine sp true rfl rfl (by rw [hn]; rfl) (by first | trivial | (simp; done) | (simp; omega) | (simp at *; done) | (simp at *; omega)) ?_ | refine sg true rfl rfl rfl (by rw [hn]; rfl) (by intro hG; first | trivial | (simp; done) | (simp; omega) | (simp at *; done) | (simp at *; omega)) ?_)
    refine N_retN [] rfl (by first | trivial | (simp; done) | (simp; omega) | (simp at *; done) | (simp at *; omega)) ⟨?_, by first | trivial | exact ⟨rfl, rfl⟩, ?_, rfl⟩ hb rfl (by first | trivial | (simp; done) | (simp [ordL]; done))
    · simp [rightB, Av.ren, Av.ren1, Cell.ren, Cell.ren1]; omega
    · trivial

theorem refmade_ok (b : Bool) (l : List Int) (hl : l.length ≤ 1000000) : Ct Try.prog 52 [numA b l] [] (numA (madeB b l) (trimL l)) [] [] := by
  refine Ct.freeze (res := .agg [.lf (.v (.bool (madeB b l))), .own 0 1 0 (trimL l).length]) (d := .ints .u8 (trimL l)) ?_ ⟨rfl, ⟨rfl, rfl, rfl, by simp, by simp⟩, trivial⟩ rfl
  refine Ct_intro Try.func52 rfl rfl rfl rfl rfl (fun E hn hb => ?_)
  repeat (first | refine W_seq ?_ | refine W_region ?_ | refine W_block ?_ | refine W_skip ?_ | refine W_ret ?_ | refine W_exit ?_ | refine WL_nil ?_ | refine N_then ?_ | refine N_then_exit ?_ | refine N_then_ret ?_ | refine N_block ?_ | refine N_block_ret ?_ | refine N_block_exit ?_ | refine N_block_pass rfl ?_ | refine sp true rfl rfl (by rw [hn]; rfl) (by first | trivial | (simp; done) | (simp; omega) | (simp at *; done) | (simp at *; omega)) ?_ | refine sg true rfl rfl rfl (by rw [hn]; rfl) (by intro hG; first | trivial | (simp; done) | (simp; omega) | (simp at *; done) | (simp at *; omega)) ?_)
  refine s_boxN rfl rfl rfl (by rw [hn]; rfl) rfl (by first | trivial | (simp; done) | (simp; omega) | (simp at *; done) | (simp at *; omega)) rfl rfl ?_
  refine s_allocN rfl rfl rfl (by rw [hn]; rfl) rfl zok24 ?_
  repeat (first | refine W_seq ?_ | refine W_region ?_ | refine W_block ?_ | refine W_skip ?_ | refine W_ret ?_ | refine W_exit ?_ | refine WL_nil ?_ | refine N_then ?_ | refine N_then_exit ?_ | refine N_then_ret ?_ | refine N_block ?_ | refine N_block_ret ?_ | refine N_block_exit ?_ | refine N_block_pass rfl ?_ | refine sp true rfl rfl (by rw [hn]; rfl) (by first | trivial | (simp; done) | (simp; omega) | (simp at *; done) | (simp at *; omega)) ?_ | refine sg true rfl rfl rfl (by rw [hn]; rfl) (by intro hG; first | trivial | (simp; done) | (simp; omega) | (simp at *; done) | (simp at *; omega)) ?_)
  refine W_weaken (St.le_of (l := [(1, .c (.ptr 65 0)), (2, .c (.ptr 66 0)), (3, lv (.int .i64 0))]) (h := [(65, .cells [.lf (.v (.bool b)), .lf (.ints .u8 l)]), (66, .cells [.lf (.v (.bool false)), .lf (.v (.slice none 0 0))])]) (by refine ⟨?_, ?_⟩ <;> (repeat' (first | exact trivial | exact rfl | refine ⟨?_, ?_⟩)) <;> first | exact rfl | (simp; done) | skip)) ?_
  refine W_loop (ι := {i : Nat // i ≤ l.length ∧ trimL (l.drop i) = trimL l}) (fun i => St.of [(1, .c (.ptr 65 0)), (2, .c (.ptr 66 0)), (3, lv (.int .i64 (i.1 : Int)))] [(65, .cells [.lf (.v (.bool b)), .lf (.ints .u8 l)]), (66, .cells [.lf (.v (.bool false)), .lf (.v (.slice none 0 0))])]) (fun i => 1000001 - i.1) (fun i => ?_) ⟨0, by omega, rfl⟩
  obtain ⟨i, hi, he⟩ := i
  dsimp only
  repeat (first | refine W_seq ?_ | refine W_region ?_ | refine W_block ?_ | refine W_skip ?_ | refine W_ret ?_ | refine W_exit ?_ | refine WL_nil ?_ | refine N_then ?_ | refine N_then_exit ?_ | refine N_then_ret ?_ | refine N_block ?_ | refine N_block_ret ?_ | refine N_block_exit ?_ | refine N_block_pass rfl ?_ | refine sp true rfl rfl (by rw [hn]; rfl) (by first | trivial | (simp; done) | (simp; omega) | (simp at *; done) | (simp at *; omega)) ?_ | refine sg true rfl rfl rfl (by rw [hn]; rfl) (by intro hG; first | trivial | (simp; done) | (simp; omega) | (simp at *; done) | (simp at *; omega)) ?_)
  refine W_cond rfl (by simp) (fun hc => ?_) (fun hc => ?_)
  · have hil : i < l.length ∧ l.getD i 0 = 0 := by simpa [Bool.cond_eq_ite] using hc
    repeat (first | refine W_seq ?_ | refine W_region ?_ | refine W_block ?_ | refine W_skip ?_ | refine W_ret ?_ | refine W_exit ?_ | refine WL_nil ?_ | refine N_then ?_ | refine N_then_exit ?_ | refine N_then_ret ?_ | refine N_block ?_ | refine N_block_ret ?_ | refine N_block_exit ?_ | refine N_block_pass rfl ?_ | refine sp true rfl rfl (by rw [hn]; rfl) (by first | trivial | (simp; done) | (simp; omega) | (simp at *; done) | (simp at *; omega)) ?_ | refine sg true rfl rfl rfl (by rw [hn]; rfl) (by intro hG; first | trivial | (simp; done) | (simp; omega) | (simp at *; done) | (simp at *; omega)) ?_)
    (refine N_round ?i1 ?i2 ?i3; (case i1 => exact ⟨i + 1, by omega, by rw [← he, List.drop_eq_getElem_cons hil.1]; have := hil.2; simp [hil.1] at this; simp [trimL, this]⟩); (case i2 => (dsimp only; omega)); (case i3 => refine St.le_of ⟨?_, ?_⟩ <;> (repeat' (first | exact trivial | exact rfl | refine ⟨?_, ?_⟩)) <;> first | exact rfl | (simp; done) | skip))
  · have he2 : l.drop i = trimL l := by
      rw [← he]
      rcases Nat.lt_or_ge i l.length with h | h
      · have : ¬ l.getD i 0 = 0 := by simpa [h, Bool.cond_eq_ite] using hc
        simp [h] at this
        rw [List.drop_eq_getElem_cons h]
        have this' : (l[i] == 0) = false := by simpa using this
        rw [trimL, List.dropWhile_cons, this']; rfl
      · rw [List.drop_eq_nil_of_le h]; rfl
    repeat (first | refine W_seq ?_ | refine W_region ?_ | refine W_block ?_ | refine W_skip ?_ | refine W_ret ?_ | refine W_exit ?_ | refine WL_nil ?_ | refine N_then ?_ | refine N_then_exit ?_ | refine N_then_ret ?_ | refine N_block ?_ | refine N_block_ret ?_ | refine N_block_exit ?_ | refine N_block_pass rfl ?_ | refine sp true rfl rfl (by rw [hn]; rfl) (by first | trivial | (simp; done) | (simp; omega) | (simp at *; done) | (simp at *; omega)) ?_ | refine sg true rfl rfl rfl (by rw [hn]; rfl) (by intro hG; first | trivial | (simp; done) | (simp; omega) | (simp at *; done) | (simp at *; omega)) ?_)
    refine s_litI rfl rfl rfl (by rw [hn]; rfl) (elt_mk Try.underlying22 rfl rfl) (zok5) (by first | trivial | (simp; done) | (simp; omega) | (simp at *; done) | (simp at *; omega)) ⟨by decide, rfl⟩ ?_
    repeat (first | refine W_seq ?_ | refine W_region ?_ | refine W_block ?_ | refine W_skip ?_ | refine W_ret ?_ | refine W_exit ?_ | refine WL_nil ?_ | refine N_then ?_ | refine N_then_exit ?_ | refine N_then_ret ?_ | refine N_block ?_ | refine N_block_ret ?_ | refine N_block_exit ?_ | refine N_block_pass rfl ?_ | refine sp true rfl rfl (by rw [hn]; rfl) (by first | trivial | (simp; done) | (simp; omega) | (simp at *; done) | (simp at *; omega)) ?_ | refine sg true rfl rfl rfl (by rw [hn]; rfl) (by intro hG; first | trivial | (simp; done) | (simp; omega) | (simp at *; done) | (simp at *; omega)) ?_)
    refine s_appI rfl rfl rfl rfl rfl rfl (by rw [hn]; rfl) (elt_mk Try.underlying22 rfl rfl) rfl rfl rfl rfl (by first | trivial | (simp; done) | (simp; omega) | (simp at *; done) | (simp at *; omega)) (by first | rfl | (simp; done) | (simp; omega)) ⟨by first | (simp; done) | (simp; omega) | (simp at *; omega), by decide⟩ ?_
    repeat (first | refine W_seq ?_ | refine W_region ?_ | refine W_block ?_ | refine W_skip ?_ | refine W_ret ?_ | refine W_exit ?_ | refine WL_nil ?_ | refine N_then ?_ | refine N_then_exit ?_ | refine N_then_ret ?_ | refine N_block ?_ | refine N_block_ret ?_ | refine N_block_exit ?_ | refine N_block_pass rfl ?_ | refine sp true rfl rfl (by rw [hn]; rfl) (by first | trivial | (simp; done) | (simp; omega) | (simp at *; done) | (simp at *; omega)) ?_ | refine sg true rfl rfl rfl (by rw [hn]; rfl) (by intro hG; first | trivial | (simp; done) | (simp; omega) | (simp at *; done) | (simp at *; omega)) ?_)
    refine s_allocN rfl rfl rfl (by rw [hn]; rfl) rfl zok24 ?_
    refine s_storeN rfl rfl rfl rfl rfl (by first | trivial | (simp; done) | (simp; omega) | (simp at *; done) | (simp at *; omega)) rfl rfl rfl (by rw [cellsOf24]; rfl) (by rw [info24]; rfl) rfl rfl ?_
    repeat (first | refine W_seq ?_ | refine W_region ?_ | refine W_block ?_ | refine W_skip ?_ | refine W_ret ?_ | refine W_exit ?_ | refine WL_nil ?_ | refine N_then ?_ | refine N_then_exit ?_ | refine N_then_ret ?_ | refine N_block ?_ | refine N_block_ret ?_ | refine N_block_exit ?_ | refine N_block_pass rfl ?_ | refine sp true rfl rfl (by rw [hn]; rfl) (by first | trivial | (simp; done) | (simp; omega) | (simp at *; done) | (simp at *; omega)) ?_ | refine sg true rfl rfl rfl (by rw [hn]; rfl) (by intro hG; first | trivial | (simp; done) | (simp; omega) | (simp at *; done) | (simp at *; omega)) ?_)
    refine s_storeN rfl rfl rfl rfl rfl (by first | trivial | (simp; done) | (simp; omega) | (simp at *; done) | (simp at *; omega)) rfl rfl rfl (by rw [cellsOf4]; rfl) (by rw [info4]; rfl) rfl rfl ?_
    repeat (first | refine W_seq ?_ | refine W_region ?_ | refine W_block ?_ | refine W_skip ?_ | refine W_ret ?_ | refine W_exit ?_ | refine WL_nil ?_ | refine N_then ?_ | refine N_then_exit ?_ | refine N_then_ret ?_ | refine N_block ?_ | refine N_block_ret ?_ | refine N_block_exit ?_ | refine N_block_pass rfl ?_ | refine sp true rfl rfl (by rw [hn]; rfl) (by first | trivial | (simp; done) | (simp; omega) | (simp at *; done) | (simp at *; omega)) ?_ | refine sg true rfl rfl rfl (by rw [hn]; rfl) (by intro hG; first | trivial | (simp; done) | (simp; omega) | (simp at *; done) | (simp at *; omega)) ?_)
    refine s_storeN rfl rfl rfl rfl rfl (by first | trivial | (simp; done) | (simp; omega) | (simp at *; done) | (simp at *; omega)) rfl rfl rfl (by rw [cellsOf24]; rfl) (by rw [info24]; rfl) rfl rfl ?_
    repeat (first | refine W_seq ?_ | refine W_region ?_ | refine W_block ?_ | refine W_skip ?_ | refine W_ret ?_ | refine W_exit ?_ | refine WL_nil ?_ | refine N_then ?_ | refine N_then_exit ?_ | refine N_then_ret ?_ | refine N_block ?_ | refine N_block_ret ?_ | refine N_block_exit ?_ | refine N_block_pass rfl ?_ | refine sp true rfl rfl (by rw [hn]; rfl) (by first | trivial | (simp; done) | (simp; omega) | (simp at *; done) | (simp at *; omega)) ?_ | refine sg true rfl rfl rfl (by rw [hn]; rfl) (by intro hG; first | trivial | (simp; done) | (simp; omega) | (simp at *; done) | (simp at *; omega)) ?_)
    have he3 : l.drop (i : Int).toNat = trimL l := he2
    refine N_retN [84] rfl (by first | trivial | (simp; done) | (simp; omega) | (simp at *; done) | (simp at *; omega)) ⟨?_, by first | trivial | exact ⟨rfl, rfl⟩, ?_, rfl⟩ hb rfl (by first | trivial | (simp; done) | (simp [ordL]; done))
    · have hlen : l.length - i = (trimL l).length := by rw [← he2]; simp
      simp [madeB, Av.ren, Av.ren1, Cell.ren, Cell.ren1, rho]
      exact ⟨by rw [hlen], rfl, hlen⟩
    · show Blk.row (.ints .u8 ([] ++ l.drop (i : Int).toNat)) = _
      rw [he3]; rfl

theorem refsame_ok (b c : Bool) (l m : List Int) (hl : l.length ≤ 1000000) (hm : m.length ≤ 1000000) : Ct Try.prog 25 [numA b l, numA c m] [] (lv (.bool (cond (madeB b l == madeB c m) ((strOfNums (trimL l)).toList == (strOfNums (trimL m)).toList) false))) [] [] := by
  refine Ct_intro Try.func25 rfl rfl rfl rfl rfl (fun E hn hb => ?_)
  repeat (first | refine W_seq ?_ | refine W_region ?_ | refine W_block ?_ | refine W_skip ?_ | refine W_ret ?_ | refine W_exit ?_ | refine WL_nil ?_ | refine N_then ?_ | refine N_then_exit ?_ | refine N_then_ret ?_ | refine N_block ?_ | refine N_block_ret ?_ | refine N_block_exit ?_ | refine N_block_pass rfl ?_ | refine sp true rfl rfl (by rw [hn]; rfl) (by first | trivial | (simp; done) | (simp; omega) | (simp at *; done) | (simp at *; omega)) ?_ | refine sg true rfl rfl rfl (by rw [hn]; rfl) (by intro hG; first | trivial | (simp; done) | (simp; omega) | (simp at *; done) | (simp at *; omega)) ?_)
  refine s_boxN rfl rfl rfl (by rw [hn]; rfl) rfl (by first | trivial | (simp; done) | (simp; omega) | (simp at *; done) | (simp at *; omega)) rfl rfl ?_
  refine s_boxN rfl rfl rfl (by rw [hn]; rfl) rfl (by first | trivial | (simp; done) | (simp; omega) | (simp at *; done) | (simp at *; omega)) rfl rfl ?_
  repeat (first | refine W_seq ?_ | refine W_region ?_ | refine W_block ?_ | refine W_skip ?_ | refine W_ret ?_ | refine W_exit ?_ | refine WL_nil ?_ | refine N_then ?_ | refine N_then_exit ?_ | refine N_then_ret ?_ | refine N_block ?_ | refine N_block_ret ?_ | refine N_block_exit ?_ | refine N_block_pass rfl ?_ | refine sp true rfl rfl (by rw [hn]; rfl) (by first | trivial | (simp; done) | (simp; omega) | (simp at *; done) | (simp at *; omega)) ?_ | refine sg true rfl rfl rfl (by rw [hn]; rfl) (by intro hG; first | trivial | (simp; done) | (simp; omega) | (simp at *; done) | (simp at *; omega)) ?_)
  refine W_drawW 4 (by kernel_rfl) (by kernel_rfl) (by kernel_rfl) (by rw [hn]; rfl) rfl rfl ?_
  repeat (first | refine DrawW_cons rfl (ops_pure true rfl rfl (by first | trivial | (simp; done) | (simp; omega) | (simp at *; done) | (simp at *; omega))) ?_ | refine DrawW_cons rfl (ops_pureG true rfl rfl rfl (by intro hG; first | trivial | (simp; done) | (simp; omega) | (simp at *; done) | (simp at *; omega))) ?_ | refine DrawW_nil ?_)
  refine DrawW_cons rfl (ops_of (opys_call (refmade_ok b l hl) rfl rfl rfl (by trivial) rfl rfl rfl) rfl) ?_
  repeat (first | refine DrawW_cons rfl (ops_pure true rfl rfl (by first | trivial | (simp; done) | (simp; omega) | (simp at *; done) | (simp at *; omega))) ?_ | refine DrawW_cons rfl (ops_pureG true rfl rfl rfl (by intro hG; first | trivial | (simp; done) | (simp; omega) | (simp at *; done) | (simp at *; omega))) ?_ | refine DrawW_nil ?_)
  refine DrawW_cons rfl (ops_of (opys_call (refmade_ok c m hm) rfl rfl rfl (by trivial) rfl rfl rfl) rfl) ?_
  repeat (first | refine DrawW_cons rfl (ops_pure true rfl rfl (by first | trivial | (simp; done) | (simp; omega) | (simp at *; done) | (simp at *; omega))) ?_ | refine DrawW_cons rfl (ops_pureG true rfl rfl rfl (by intro hG; first | trivial | (simp; done) | (simp; omega) | (simp at *; done) | (simp at *; omega))) ?_ | refine DrawW_nil ?_)
  refine s_storeN rfl rfl rfl rfl rfl (by first | trivial | (simp; done) | (simp; omega) | (simp at *; done) | (simp at *; omega)) rfl rfl rfl (by rw [cellsOf24]; rfl) (by rw [info24]; rfl) rfl rfl ?_
  refine s_storeN rfl rfl rfl rfl rfl (by first | trivial | (simp; done) | (simp; omega) | (simp at *; done) | (simp at *; omega)) rfl rfl rfl (by rw [cellsOf24]; rfl) (by rw [info24]; rfl) rfl rfl ?_
  repeat (first | refine W_seq ?_ | refine W_region ?_ | refine W_block ?_ | refine W_skip ?_ | refine W_ret ?_ | refine W_exit ?_ | refine WL_nil ?_ | refine N_then ?_ | refine N_then_exit ?_ | refine N_then_ret ?_ | refine N_block ?_ | refine N_block_ret ?_ | refine N_block_exit ?_ | refine N_block_pass rfl ?_ | refine sp true rfl rfl (by rw [hn]; rfl) (by first | trivial | (simp; done) | (simp; omega) | (simp at *; done) | (simp at *; omega)) ?_ | refine sg true rfl rfl rfl (by rw [hn]; rfl) (by intro hG; first | trivial | (simp; done) | (simp; omega) | (simp at *; done) | (simp at *; omega)) ?_)
  refine WL_q (opq_ofG rfl rfl (fun hG => opy_str rfl Try.underlying22 Try.underlying5 Try.underlying9 rfl (by first | trivial | (simp; done) | (simp; omega) | (simp at *; done) | (simp at *; omega)))) (by rw [hn]; rfl) ?_
  repeat (first | refine W_seq ?_ | refine W_region ?_ | refine W_block ?_ | refine W_skip ?_ | refine W_ret ?_ | refine W_exit ?_ | refine WL_nil ?_ | refine N_then ?_ | refine N_then_exit ?_ | refine N_then_ret ?_ | refine N_block ?_ | refine N_block_ret ?_ | refine N_block_exit ?_ | refine N_block_pass rfl ?_ | refine sp true rfl rfl (by rw [hn]; rfl) (by first | trivial | (simp; done) | (simp; omega) | (simp at *; done) | (simp at *; omega)) ?_ | refine sg true rfl rfl rfl (by rw [hn]; rfl) (by intro hG; first | trivial | (simp; done) | (simp; omega) | (simp at *; done) | (simp at *; omega)) ?_)
  refine WL_q (opq_ofG rfl rfl (fun hG => opy_str rfl Try.underlying22 Try.underlying5 Try.underlying9 rfl (by first | trivial | (simp; done) | (simp; omega) | (simp at *; done) | (simp at *; omega)))) (by rw [hn]; rfl) ?_
  repeat (first | refine W_seq ?_ | refine W_region ?_ | refine W_block ?_ | refine W_skip ?_ | refine W_ret ?_ | refine W_exit ?_ | refine WL_nil ?_ | refine N_then ?_ | refine N_then_exit ?_ | refine N_then_ret ?_ | refine N_block ?_ | refine N_block_ret ?_ | refine N_block_exit ?_ | refine N_block_pass rfl ?_ | refine sp true rfl rfl (by rw [hn]; rfl) (by first | trivial | (simp; done) | (simp; omega) | (simp at *; done) | (simp at *; omega)) ?_ | refine sg true rfl rfl rfl (by rw [hn]; rfl) (by intro hG; first | trivial | (simp; done) | (simp; omega) | (simp at *; done) | (simp at *; omega)) ?_)
  refine N_retN [] rfl (by first | trivial | (simp; done) | (simp; omega) | (simp at *; done) | (simp at *; omega)) ⟨?_, by first | trivial | exact ⟨rfl, rfl⟩, ?_, rfl⟩ hb rfl (by first | trivial | (simp; done) | (simp [ordL]; done))
  · rfl
  · trivial
end Go.Proofs.Ytppmfjopokkhmaa

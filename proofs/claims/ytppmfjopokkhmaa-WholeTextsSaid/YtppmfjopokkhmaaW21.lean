/-
  Chapter 03: texts as numbers, the document's way. The conditions: rows of at most a hundred thousand bytes.
-/
import Derived.Test.YtppmfjopokkhmaaW20
namespace Go.Proofs.Ytppmfjopokkhmaa
set_option linter.unusedSimpArgs false
set_option linter.unusedVariables false
open Go.Sx

set_option maxRecDepth 10000

theorem one_str {l : List Int} (hw : WfB l) : ((strOfNums l).toList == (ByteArray.mk #[48]).toList) = decide (l = [48]) :=
  byte_string_eq l [48] hw (wf_of (by decide))

theorem reffromtext_ok (l : List Int) (hl : l.length ≤ 100000) (hw : WfB l) : Ct Try.prog 34 [lv (.string (strOfNums l))] [] (numE (fromN l)) [] [] := by
  have hsz : (strOfNums l).size = l.length := strOfNums_size l
  have hbs := bs_str hw
  have hB := body_len l
  have hBw := body_wf hw
  have hsz2 : (strOfNums (bodyL l)).size = (bodyL l).length := strOfNums_size _
  have hbs2 := bs_str hBw
  have hneg : (bif decide (0 < ((strOfNums l).size : Int)) then (bs (strOfNums l)).getD (Int.toNat 0) 0 == 45 else false) = negB l := by
    rw [hsz, hbs, negB]; cases decide (0 < (l.length : Int)) <;> rfl
  refine Ct_intro Try.func34 rfl rfl rfl rfl rfl (fun E hn hb => ?_)
  repeat (first | refine W_seq ?_ | refine W_region ?_ | refine W_block ?_ | refine W_skip ?_ | refine W_ret ?_ | refine W_exit ?_ | refine WL_nil ?_ | refine N_then ?_ | refine N_then_exit ?_ | refine N_then_ret ?_ | refine N_block ?_ | refine N_block_ret ?_ | refine N_block_exit ?_ | refine N_block_pass rfl ?_ | refine sp true rfl rfl (by rw [hn]; rfl) (by first | trivial | (simp; done) | (simp; omega) | (simp at *; done) | (simp at *; omega)) ?_ | refine sg true rfl rfl rfl (by rw [hn]; rfl) (by intro hG; first | trivial | (simp; done) | (simp; omega) | (simp at *; done) | (simp at *; omega)) ?_)
  refine s_allocN rfl rfl rfl (by rw [hn]; rfl) rfl zok24 ?_
  repeat (first | refine W_seq ?_ | refine W_region ?_ | refine W_block ?_ | refine W_skip ?_ | refine W_ret ?_ | refine W_exit ?_ | refine WL_nil ?_ | refine N_then ?_ | refine N_then_exit ?_ | refine N_then_ret ?_ | refine N_block ?_ | refine N_block_ret ?_ | refine N_block_exit ?_ | refine N_block_pass rfl ?_ | refine sp true rfl rfl (by rw [hn]; rfl) (by first | trivial | (simp; done) | (simp; omega) | (simp at *; done) | (simp at *; omega)) ?_ | refine sg true rfl rfl rfl (by rw [hn]; rfl) (by intro hG; first | trivial | (simp; done) | (simp; omega) | (simp at *; done) | (simp at *; omega)) ?_)
  refine W_join (St.of [(0, lv (.string (strOfNums l))), (2, .c (.ptr 66 0)), (4, lv (.string (strOfNums (bodyL l)))), (5, lv (.bool (negB l)))] [(66, .cells [.lf (.v (.bool false)), .lf (.v (.slice none 0 0))])]) ?_ ?_
  · rw [hneg]
    refine W_cond rfl (by simp) (fun hc => ?_) (fun hc => ?_)
    · have e : (strOfNums l).extract (Int.toNat 1) (strOfNums l).size = strOfNums (bodyL l) := by
        rw [ext_str, hsz, List.take_length, bodyL, hc]; rfl
      have hpos : 0 < l.length := by simp [negB] at hc; omega
      repeat (first | refine W_seq ?_ | refine W_region ?_ | refine W_block ?_ | refine W_skip ?_ | refine W_ret ?_ | refine W_exit ?_ | refine WL_nil ?_ | refine N_then ?_ | refine N_then_exit ?_ | refine N_then_ret ?_ | refine N_block ?_ | refine N_block_ret ?_ | refine N_block_exit ?_ | refine N_block_pass rfl ?_ | refine sp true rfl rfl (by rw [hn]; rfl) (by first | trivial | (simp; done) | (simp; omega) | (simp at *; done) | (simp at *; omega)) ?_ | refine sg true rfl rfl rfl (by rw [hn]; rfl) (by intro hG; first | trivial | (simp; done) | (simp; omega) | (simp at *; done) | (simp at *; omega)) ?_)
      rw [e]
      (refine N_join ?_; refine St.le_of ⟨?_, ?_⟩ <;> (repeat' (first | exact trivial | exact rfl | refine ⟨?_, ?_⟩)) <;> first | exact rfl | (simp; done) | skip)
    · have e : bodyL l = l := by rw [bodyL, hc]; rfl
      rw [e]
      repeat (first | refine W_seq ?_ | refine W_region ?_ | refine W_block ?_ | refine W_skip ?_ | refine W_ret ?_ | refine W_exit ?_ | refine WL_nil ?_ | refine N_then ?_ | refine N_then_exit ?_ | refine N_then_ret ?_ | refine N_block ?_ | refine N_block_ret ?_ | refine N_block_exit ?_ | refine N_block_pass rfl ?_ | refine sp true rfl rfl (by rw [hn]; rfl) (by first | trivial | (simp; done) | (simp; omega) | (simp at *; done) | (simp at *; omega)) ?_ | refine sg true rfl rfl rfl (by rw [hn]; rfl) (by intro hG; first | trivial | (simp; done) | (simp; omega) | (simp at *; done) | (simp at *; omega)) ?_)
      (refine N_join ?_; refine St.le_of ⟨?_, ?_⟩ <;> (repeat' (first | exact trivial | exact rfl | refine ⟨?_, ?_⟩)) <;> first | exact rfl | (simp; done) | skip)
  have hbr := badB_ref l
  generalize hD : bodyL l = D at *
  generalize hN : negB l = ng at *
  repeat (first | refine W_seq ?_ | refine W_region ?_ | refine W_block ?_ | refine W_skip ?_ | refine W_ret ?_ | refine W_exit ?_ | refine WL_nil ?_ | refine N_then ?_ | refine N_then_exit ?_ | refine N_then_ret ?_ | refine N_block ?_ | refine N_block_ret ?_ | refine N_block_exit ?_ | refine N_block_pass rfl ?_ | refine sp true rfl rfl (by rw [hn]; rfl) (by first | trivial | (simp; done) | (simp; omega) | (simp at *; done) | (simp at *; omega)) ?_ | refine sg true rfl rfl rfl (by rw [hn]; rfl) (by intro hG; first | trivial | (simp; done) | (simp; omega) | (simp at *; done) | (simp at *; omega)) ?_)
  rw [hsz2]
  refine sg true rfl rfl rfl (by rw [hn]; rfl) ?_ ?_
  · intro hG
    have hG2 : (!((D.length : Int) == 0)) = true := hG
    have h0 : 0 < D.length := by simp at hG2; exact List.length_pos_iff.2 hG2
    refine ⟨hG2, Try.underlying9, by decide, ?_⟩
    show (0 : Int) < ((strOfNums D).size : Int)
    rw [hsz2]
    exact Int.ofNat_lt.2 h0
  repeat (first | refine W_seq ?_ | refine W_region ?_ | refine W_block ?_ | refine W_skip ?_ | refine W_ret ?_ | refine W_exit ?_ | refine WL_nil ?_ | refine N_then ?_ | refine N_then_exit ?_ | refine N_then_ret ?_ | refine N_block ?_ | refine N_block_ret ?_ | refine N_block_exit ?_ | refine N_block_pass rfl ?_ | refine sp true rfl rfl (by rw [hn]; rfl) (by first | trivial | (simp; done) | (simp; omega) | (simp at *; done) | (simp at *; omega)) ?_ | refine sg true rfl rfl rfl (by rw [hn]; rfl) (by intro hG; first | trivial | (simp; done) | (simp; omega) | (simp at *; done) | (simp at *; omega)) ?_)
  rw [hbs2]
  generalize hc1 : (D.getD (Int.toNat 0) 0 == 48) = c1
  generalize hc0 : ((D.length : Int) == 0) = c0
  generalize hc2 : (!(strOfNums l).toList == (ByteArray.mk #[48]).toList) = c2
  refine sg true rfl rfl rfl (by rw [hn]; rfl) ?_ ?_
  · intro hG
    cases c0 <;> cases c1 <;> cases c2 <;> simp at hG ⊢
  refine sp true rfl rfl (by rw [hn]; rfl) ?_ ?_
  · cases c0 <;> cases c1 <;> cases c2 <;> simp
  repeat (first | refine W_seq ?_ | refine W_region ?_ | refine W_block ?_ | refine W_skip ?_ | refine W_ret ?_ | refine W_exit ?_ | refine WL_nil ?_ | refine N_then ?_ | refine N_then_exit ?_ | refine N_then_ret ?_ | refine N_block ?_ | refine N_block_ret ?_ | refine N_block_exit ?_ | refine N_block_pass rfl ?_ | refine sp true rfl rfl (by rw [hn]; rfl) (by first | trivial | (simp; done) | (simp; omega) | (simp at *; done) | (simp at *; omega)) ?_ | refine sg true rfl rfl rfl (by rw [hn]; rfl) (by intro hG; first | trivial | (simp; done) | (simp; omega) | (simp at *; done) | (simp at *; omega)) ?_)
  have hbad : (bif c0 then true else bif c1 then c2 else false) = badB l := by
    rw [← hbr, ← hc0, ← hc1, ← hc2, one_str hw]
    cases D with
    | nil => rfl
    | cons x t =>
      have h1 : (((x :: t).length : Int) == 0) = false := by simp; omega
      have h3 : decide (x :: t = []) = false := by simp
      have h4 : decide (l ≠ [48]) = !decide (l = [48]) := by by_cases h : l = [48] <;> simp [h]
      rw [h1, h3, h4]
      show (bif false then true else bif ((x :: t).getD 0 0 == 48) then !decide (l = [48]) else false) = (false || ((x :: t).getD 0 0 == 48 && !decide (l = [48])))
      cases ((x :: t).getD 0 0 == 48) <;> cases decide (l = [48]) <;> rfl
  refine W_cond rfl (by simp) (fun hq => ?_) (fun hq => ?_)
  · rw [hbad] at hq
    have e : fromN l = (false, [], 6) := by rw [fromN, if_pos hq]
    rw [e]
    repeat (first | refine W_seq ?_ | refine W_region ?_ | refine W_block ?_ | refine W_skip ?_ | refine W_ret ?_ | refine W_exit ?_ | refine WL_nil ?_ | refine N_then ?_ | refine N_then_exit ?_ | refine N_then_ret ?_ | refine N_block ?_ | refine N_block_ret ?_ | refine N_block_exit ?_ | refine N_block_pass rfl ?_ | refine sp true rfl rfl (by rw [hn]; rfl) (by first | trivial | (simp; done) | (simp; omega) | (simp at *; done) | (simp at *; omega)) ?_ | refine sg true rfl rfl rfl (by rw [hn]; rfl) (by intro hG; first | trivial | (simp; done) | (simp; omega) | (simp at *; done) | (simp at *; omega)) ?_)
    refine s_storeN rfl rfl rfl rfl rfl (by first | trivial | (simp; done) | (simp; omega) | (simp at *; done) | (simp at *; omega)) rfl rfl rfl (by rw [cellsOf24]; rfl) (by rw [info24]; rfl) rfl rfl ?_
    repeat (first | refine W_seq ?_ | refine W_region ?_ | refine W_block ?_ | refine W_skip ?_ | refine W_ret ?_ | refine W_exit ?_ | refine WL_nil ?_ | refine N_then ?_ | refine N_then_exit ?_ | refine N_then_ret ?_ | refine N_block ?_ | refine N_block_ret ?_ | refine N_block_exit ?_ | refine N_block_pass rfl ?_ | refine sp true rfl rfl (by rw [hn]; rfl) (by first | trivial | (simp; done) | (simp; omega) | (simp at *; done) | (simp at *; omega)) ?_ | refine sg true rfl rfl rfl (by rw [hn]; rfl) (by intro hG; first | trivial | (simp; done) | (simp; omega) | (simp at *; done) | (simp at *; omega)) ?_)
    refine N_retU [] rfl (by simp) (r' := .tup [numA false [], lv (.int .i64 6)]) ⟨⟨.inl rfl, .inr ⟨rfl, .inl ⟨_, rfl⟩⟩, trivial⟩, .inl rfl, trivial⟩ ⟨rfl, trivial, trivial, rfl⟩ hb rfl trivial
  rw [hbad] at hq
  have hF : fromN l = if D.all isDig = false then (false, [], 6) else if (400 : Int) < D.length then (false, [], 2) else (madeB ng (digL (decV D)), digL (decV D), 0) := by
    rw [fromN, hq, hD, hN]; rfl
  clear hc0 hc1 hc2 hbad hq hbr
  repeat (first | refine W_seq ?_ | refine W_region ?_ | refine W_block ?_ | refine W_skip ?_ | refine W_ret ?_ | refine W_exit ?_ | refine WL_nil ?_ | refine N_then ?_ | refine N_then_exit ?_ | refine N_then_ret ?_ | refine N_block ?_ | refine N_block_ret ?_ | refine N_block_exit ?_ | refine N_block_pass rfl ?_ | refine sp true rfl rfl (by rw [hn]; rfl) (by first | trivial | (simp; done) | (simp; omega) | (simp at *; done) | (simp at *; omega)) ?_ | refine sg true rfl rfl rfl (by rw [hn]; rfl) (by intro hG; first | trivial | (simp; done) | (simp; omega) | (simp at *; done) | (simp at *; omega)) ?_)
  refine W_weaken (St.le_of (l := [(2, .c (.ptr 66 0)), (4, lv (.string (strOfNums D))), (5, lv (.bool ng)), (6, lv (.int .i64 0))]) (h := [(66, .cells [.lf (.v (.bool false)), .lf (.v (.slice none 0 0))])]) (by refine ⟨?_, ?_⟩ <;> (repeat' (first | exact trivial | exact rfl | refine ⟨?_, ?_⟩)) <;> first | exact rfl | (simp; done) | skip)) ?_
  refine W_loop (ι := {i : Nat // i ≤ D.length ∧ (D.take i).all isDig = true}) (fun i => St.of [(2, .c (.ptr 66 0)), (4, lv (.string (strOfNums D))), (5, lv (.bool ng)), (6, lv (.int .i64 (i.1 : Int)))] [(66, .cells [.lf (.v (.bool false)), .lf (.v (.slice none 0 0))])]) (fun i => D.length - i.1) (fun i => ?_) ⟨0, by omega, rfl⟩
  obtain ⟨i, hi, hall⟩ := i
  dsimp only
  repeat (first | refine W_seq ?_ | refine W_region ?_ | refine W_block ?_ | refine W_skip ?_ | refine W_ret ?_ | refine W_exit ?_ | refine WL_nil ?_ | refine N_then ?_ | refine N_then_exit ?_ | refine N_then_ret ?_ | refine N_block ?_ | refine N_block_ret ?_ | refine N_block_exit ?_ | refine N_block_pass rfl ?_ | refine sp true rfl rfl (by rw [hn]; rfl) (by first | trivial | (simp; done) | (simp; omega) | (simp at *; done) | (simp at *; omega)) ?_ | refine sg true rfl rfl rfl (by rw [hn]; rfl) (by intro hG; first | trivial | (simp; done) | (simp; omega) | (simp at *; done) | (simp at *; omega)) ?_)
  rw [hsz2]
  refine W_cond rfl (by simp) (fun hq => ?_) (fun hq => ?_)
  · have hi8 : i < D.length := by simp at hq; omega
    have hg : (bs (strOfNums D)).getD (i : Int).toNat 0 = D[i] := by rw [hbs2]; simp [hi8]
    have hT : D.take (i + 1) = D.take i ++ [D[i]] := by rw [List.take_add_one, List.getElem?_eq_getElem hi8]; rfl
    repeat (first | refine W_seq ?_ | refine W_region ?_ | refine W_block ?_ | refine W_skip ?_ | refine W_ret ?_ | refine W_exit ?_ | refine WL_nil ?_ | refine N_then ?_ | refine N_then_exit ?_ | refine N_then_ret ?_ | refine N_block ?_ | refine N_block_ret ?_ | refine N_block_exit ?_ | refine N_block_pass rfl ?_ | refine sp true rfl rfl (by rw [hn]; rfl) (by first | trivial | (simp; done) | (simp; omega) | (simp at *; done) | (simp at *; omega)) ?_ | refine sg true rfl rfl rfl (by rw [hn]; rfl) (by intro hG; first | trivial | (simp; done) | (simp; omega) | (simp at *; done) | (simp at *; omega)) ?_)
    rw [hg]
    repeat (first | refine W_seq ?_ | refine W_region ?_ | refine W_block ?_ | refine W_skip ?_ | refine W_ret ?_ | refine W_exit ?_ | refine WL_nil ?_ | refine N_then ?_ | refine N_then_exit ?_ | refine N_then_ret ?_ | refine N_block ?_ | refine N_block_ret ?_ | refine N_block_exit ?_ | refine N_block_pass rfl ?_ | refine sp true rfl rfl (by rw [hn]; rfl) (by first | trivial | (simp; done) | (simp; omega) | (simp at *; done) | (simp at *; omega)) ?_ | refine sg true rfl rfl rfl (by rw [hn]; rfl) (by intro hG; first | trivial | (simp; done) | (simp; omega) | (simp at *; done) | (simp at *; omega)) ?_)
    refine W_cond rfl (by simp) (fun hr => ?_) (fun hr => ?_)
    · have hnd : isDig D[i] = false := by
        simp [isDig, Bool.cond_eq_ite] at hr ⊢
        omega
      have e : fromN l = (false, [], 6) := by
        have : D.all isDig = false := by
          rw [Bool.eq_false_iff]
          intro h
          have := List.all_eq_true.1 h D[i] (List.getElem_mem hi8)
          rw [hnd] at this; cases this
        rw [hF, if_pos this]
      rw [e]
      repeat (first | refine W_seq ?_ | refine W_region ?_ | refine W_block ?_ | refine W_skip ?_ | refine W_ret ?_ | refine W_exit ?_ | refine WL_nil ?_ | refine N_then ?_ | refine N_then_exit ?_ | refine N_then_ret ?_ | refine N_block ?_ | refine N_block_ret ?_ | refine N_block_exit ?_ | refine N_block_pass rfl ?_ | refine sp true rfl rfl (by rw [hn]; rfl) (by first | trivial | (simp; done) | (simp; omega) | (simp at *; done) | (simp at *; omega)) ?_ | refine sg true rfl rfl rfl (by rw [hn]; rfl) (by intro hG; first | trivial | (simp; done) | (simp; omega) | (simp at *; done) | (simp at *; omega)) ?_)
      refine s_storeN rfl rfl rfl rfl rfl (by first | trivial | (simp; done) | (simp; omega) | (simp at *; done) | (simp at *; omega)) rfl rfl rfl (by rw [cellsOf24]; rfl) (by rw [info24]; rfl) rfl rfl ?_
      repeat (first | refine W_seq ?_ | refine W_region ?_ | refine W_block ?_ | refine W_skip ?_ | refine W_ret ?_ | refine W_exit ?_ | refine WL_nil ?_ | refine N_then ?_ | refine N_then_exit ?_ | refine N_then_ret ?_ | refine N_block ?_ | refine N_block_ret ?_ | refine N_block_exit ?_ | refine N_block_pass rfl ?_ | refine sp true rfl rfl (by rw [hn]; rfl) (by first | trivial | (simp; done) | (simp; omega) | (simp at *; done) | (simp at *; omega)) ?_ | refine sg true rfl rfl rfl (by rw [hn]; rfl) (by intro hG; first | trivial | (simp; done) | (simp; omega) | (simp at *; done) | (simp at *; omega)) ?_)
      refine N_retU [] rfl (by simp) (r' := .tup [numA false [], lv (.int .i64 6)]) ⟨⟨.inl rfl, .inr ⟨rfl, .inl ⟨_, rfl⟩⟩, trivial⟩, .inl rfl, trivial⟩ ⟨rfl, trivial, trivial, rfl⟩ hb rfl trivial
    · have hnd : isDig D[i] = true := by
        simp [isDig, Bool.cond_eq_ite] at hr ⊢
        omega
      repeat (first | refine W_seq ?_ | refine W_region ?_ | refine W_block ?_ | refine W_skip ?_ | refine W_ret ?_ | refine W_exit ?_ | refine WL_nil ?_ | refine N_then ?_ | refine N_then_exit ?_ | refine N_then_ret ?_ | refine N_block ?_ | refine N_block_ret ?_ | refine N_block_exit ?_ | refine N_block_pass rfl ?_ | refine sp true rfl rfl (by rw [hn]; rfl) (by first | trivial | (simp; done) | (simp; omega) | (simp at *; done) | (simp at *; omega)) ?_ | refine sg true rfl rfl rfl (by rw [hn]; rfl) (by intro hG; first | trivial | (simp; done) | (simp; omega) | (simp at *; done) | (simp at *; omega)) ?_)
      refine N_round ⟨i + 1, by omega, by rw [hT, List.all_append, hall]; simp [hnd]⟩ (by dsimp only; omega) (St.le_of ⟨⟨rfl, rfl, rfl, rfl⟩, rfl⟩)
  · have : i = D.length := by simp at hq; omega
    subst this
    rw [List.take_length] at hall
    rw [hall, if_neg (by simp)] at hF
    repeat (first | refine W_seq ?_ | refine W_region ?_ | refine W_block ?_ | refine W_skip ?_ | refine W_ret ?_ | refine W_exit ?_ | refine WL_nil ?_ | refine N_then ?_ | refine N_then_exit ?_ | refine N_then_ret ?_ | refine N_block ?_ | refine N_block_ret ?_ | refine N_block_exit ?_ | refine N_block_pass rfl ?_ | refine sp true rfl rfl (by rw [hn]; rfl) (by first | trivial | (simp; done) | (simp; omega) | (simp at *; done) | (simp at *; omega)) ?_ | refine sg true rfl rfl rfl (by rw [hn]; rfl) (by intro hG; first | trivial | (simp; done) | (simp; omega) | (simp at *; done) | (simp at *; omega)) ?_)
    rw [hsz2]
    refine W_cond rfl (by simp) (fun hr => ?_) (fun hr => ?_)
    · have h4 : (400 : Int) < D.length := by simpa using hr
      rw [if_pos h4] at hF
      rw [hF]
      repeat (first | refine W_seq ?_ | refine W_region ?_ | refine W_block ?_ | refine W_skip ?_ | refine W_ret ?_ | refine W_exit ?_ | refine WL_nil ?_ | refine N_then ?_ | refine N_then_exit ?_ | refine N_then_ret ?_ | refine N_block ?_ | refine N_block_ret ?_ | refine N_block_exit ?_ | refine N_block_pass rfl ?_ | refine sp true rfl rfl (by rw [hn]; rfl) (by first | trivial | (simp; done) | (simp; omega) | (simp at *; done) | (simp at *; omega)) ?_ | refine sg true rfl rfl rfl (by rw [hn]; rfl) (by intro hG; first | trivial | (simp; done) | (simp; omega) | (simp at *; done) | (simp at *; omega)) ?_)
      refine s_storeN rfl rfl rfl rfl rfl (by first | trivial | (simp; done) | (simp; omega) | (simp at *; done) | (simp at *; omega)) rfl rfl rfl (by rw [cellsOf24]; rfl) (by rw [info24]; rfl) rfl rfl ?_
      repeat (first | refine W_seq ?_ | refine W_region ?_ | refine W_block ?_ | refine W_skip ?_ | refine W_ret ?_ | refine W_exit ?_ | refine WL_nil ?_ | refine N_then ?_ | refine N_then_exit ?_ | refine N_then_ret ?_ | refine N_block ?_ | refine N_block_ret ?_ | refine N_block_exit ?_ | refine N_block_pass rfl ?_ | refine sp true rfl rfl (by rw [hn]; rfl) (by first | trivial | (simp; done) | (simp; omega) | (simp at *; done) | (simp at *; omega)) ?_ | refine sg true rfl rfl rfl (by rw [hn]; rfl) (by intro hG; first | trivial | (simp; done) | (simp; omega) | (simp at *; done) | (simp at *; omega)) ?_)
      refine N_retU [] rfl (by simp) (r' := .tup [numA false [], lv (.int .i64 2)]) ⟨⟨.inl rfl, .inr ⟨rfl, .inl ⟨_, rfl⟩⟩, trivial⟩, .inl rfl, trivial⟩ ⟨rfl, trivial, trivial, rfl⟩ hb rfl trivial
    · have h4 : ¬ (400 : Int) < D.length := by simpa using hr
      rw [if_neg h4] at hF
      repeat (first | refine W_seq ?_ | refine W_region ?_ | refine W_block ?_ | refine W_skip ?_ | refine W_ret ?_ | refine W_exit ?_ | refine WL_nil ?_ | refine N_then ?_ | refine N_then_exit ?_ | refine N_then_ret ?_ | refine N_block ?_ | refine N_block_ret ?_ | refine N_block_exit ?_ | refine N_block_pass rfl ?_ | refine sp true rfl rfl (by rw [hn]; rfl) (by first | trivial | (simp; done) | (simp; omega) | (simp at *; done) | (simp at *; omega)) ?_ | refine sg true rfl rfl rfl (by rw [hn]; rfl) (by intro hG; first | trivial | (simp; done) | (simp; omega) | (simp at *; done) | (simp at *; omega)) ?_)
      refine W_own_nil 7 160 1 (.ints .u8 []) rfl rfl (.inl rfl) ?_
      have e0 : digL (decV (D.take 0)) = [] := by rw [List.take_zero]; exact dig_zero
      refine W_weaken (St.le_of (l := [(2, .c (.ptr 66 0)), (4, lv (.string (strOfNums D))), (5, lv (.bool ng)), (7, .c (.own 160 1 0 0)), (8, lv (.int .i64 0))]) (h := [(66, .cells [.lf (.v (.bool false)), .lf (.v (.slice none 0 0))]), (160, .row (.ints .u8 []))]) (by refine ⟨?_, ?_⟩ <;> (repeat' (first | exact trivial | exact rfl | refine ⟨?_, ?_⟩)) <;> first | exact rfl | (simp; done) | skip)) ?_
      refine W_weaken (τ := St.of [(2, .c (.ptr 66 0)), (4, lv (.string (strOfNums D))), (5, lv (.bool ng)), (7, .c (.own 160 1 0 (digL (decV (D.take 0))).length)), (8, lv (.int .i64 ((0 : Nat) : Int)))] [(66, .cells [.lf (.v (.bool false)), .lf (.v (.slice none 0 0))]), (160, .row (.ints .u8 (digL (decV (D.take 0)))))]) ?_ ?_
      · rw [e0]; exact ⟨fun _ => .inl rfl, fun _ => .inl rfl⟩
      refine W_loop (ι := {i : Nat // i ≤ D.length}) (fun i => St.of [(2, .c (.ptr 66 0)), (4, lv (.string (strOfNums D))), (5, lv (.bool ng)), (7, .c (.own 160 1 0 (digL (decV (D.take i.1))).length)), (8, lv (.int .i64 (i.1 : Int)))] [(66, .cells [.lf (.v (.bool false)), .lf (.v (.slice none 0 0))]), (160, .row (.ints .u8 (digL (decV (D.take i.1)))))]) (fun i => D.length - i.1) (fun i => ?_) ⟨0, by omega⟩
      obtain ⟨i, hi⟩ := i
      dsimp only
      have htk : (D.take i).all isDig = true := by
        rw [List.all_eq_true] at hall ⊢
        exact fun x hx => hall x (List.mem_of_mem_take hx)
      have hdl := dig_len10 (D.take i).length (decV (D.take i)) (decV_lt _ htk)
      have hdl2 : (digL (decV (D.take i))).length ≤ 400 := by simp at hdl; omega
      repeat (first | refine W_seq ?_ | refine W_region ?_ | refine W_block ?_ | refine W_skip ?_ | refine W_ret ?_ | refine W_exit ?_ | refine WL_nil ?_ | refine N_then ?_ | refine N_then_exit ?_ | refine N_then_ret ?_ | refine N_block ?_ | refine N_block_ret ?_ | refine N_block_exit ?_ | refine N_block_pass rfl ?_ | refine sp true rfl rfl (by rw [hn]; rfl) (by first | trivial | (simp; done) | (simp; omega) | (simp at *; done) | (simp at *; omega)) ?_ | refine sg true rfl rfl rfl (by rw [hn]; rfl) (by intro hG; first | trivial | (simp; done) | (simp; omega) | (simp at *; done) | (simp at *; omega)) ?_)
      rw [hsz2]
      refine W_cond rfl (by simp) (fun hq => ?_) (fun hq => ?_)
      · have hi8 : i < D.length := by simp at hq; omega
        have hg : (bs (strOfNums D)).getD (i : Int).toNat 0 = D[i] := by rw [hbs2]; simp [hi8]
        have hT : D.take (i + 1) = D.take i ++ [D[i]] := by rw [List.take_add_one, List.getElem?_eq_getElem hi8]; rfl
        have hdi : 48 ≤ D[i] ∧ D[i] ≤ 57 := by
          have := List.all_eq_true.1 hall D[i] (List.getElem_mem hi8)
          simpa [isDig] using this
        obtain ⟨d1, d2, d3⟩ := dig_spec (decV (D.take i)) (decV (D.take i)) (Nat.le_refl _)
        have hah := tim_ahead (D[i] - 48) (by omega) (decV (D.take i))
        rw [← decV_snoc, ← hT] at hah
        generalize hR : digL (decV (D.take i)) = R at *
        generalize hd0 : D[i] - 48 = d at *
        have hdr : 0 ≤ d ∧ d < 10 := by omega
        repeat (first | refine W_seq ?_ | refine W_region ?_ | refine W_block ?_ | refine W_skip ?_ | refine W_ret ?_ | refine W_exit ?_ | refine WL_nil ?_ | refine N_then ?_ | refine N_then_exit ?_ | refine N_then_ret ?_ | refine N_block ?_ | refine N_block_ret ?_ | refine N_block_exit ?_ | refine N_block_pass rfl ?_ | refine sp true rfl rfl (by rw [hn]; rfl) (by first | trivial | (simp; done) | (simp; omega) | (simp at *; done) | (simp at *; omega)) ?_ | refine sg true rfl rfl rfl (by rw [hn]; rfl) (by intro hG; first | trivial | (simp; done) | (simp; omega) | (simp at *; done) | (simp at *; omega)) ?_)
        rw [hg]
        repeat (first | refine W_seq ?_ | refine W_region ?_ | refine W_block ?_ | refine W_skip ?_ | refine W_ret ?_ | refine W_exit ?_ | refine WL_nil ?_ | refine N_then ?_ | refine N_then_exit ?_ | refine N_then_ret ?_ | refine N_block ?_ | refine N_block_ret ?_ | refine N_block_exit ?_ | refine N_block_pass rfl ?_ | refine sp true rfl rfl (by rw [hn]; rfl) (by first | trivial | (simp; done) | (simp; omega) | (simp at *; done) | (simp at *; omega)) ?_ | refine sg true rfl rfl rfl (by rw [hn]; rfl) (by intro hG; first | trivial | (simp; done) | (simp; omega) | (simp at *; done) | (simp at *; omega)) ?_)
        rw [hd0]
        generalize hm : R.length = m at *
        have e2 : R = R.take m ++ (timC d (R.drop m)).1 := by
          rw [List.take_of_length_le (by omega), List.drop_of_length_le (by omega)]; simp [timC]
        have e3 : d = (timC d (R.drop m)).2 := by rw [List.drop_of_length_le (by omega)]; rfl
        refine W_weaken (St.le_of (l := [(2, .c (.ptr 66 0)), (4, lv (.string (strOfNums D))), (5, lv (.bool ng)), (7, .c (.own 160 1 0 m)), (8, lv (.int .i64 (i : Int))), (9, lv (.int .i64 d)), (10, lv (.int .i64 ((m : Int) - 1)))]) (h := [(66, .cells [.lf (.v (.bool false)), .lf (.v (.slice none 0 0))]), (160, .row (.ints .u8 R))]) (by refine ⟨?_, ?_⟩ <;> (repeat' (first | exact trivial | exact rfl | refine ⟨?_, ?_⟩)) <;> first | exact rfl | (simp; done) | skip)) ?_
        refine W_weaken (τ := St.of [(2, .c (.ptr 66 0)), (4, lv (.string (strOfNums D))), (5, lv (.bool ng)), (7, .c (.own 160 1 0 m)), (8, lv (.int .i64 (i : Int))), (9, lv (.int .i64 (timC d (R.drop m)).2)), (10, lv (.int .i64 ((m : Int) - 1)))] [(66, .cells [.lf (.v (.bool false)), .lf (.v (.slice none 0 0))]), (160, .row (.ints .u8 (R.take m ++ (timC d (R.drop m)).1)))]) ?_ ?_
        · rw [← e2, ← e3]; exact ⟨fun _ => .inl rfl, fun _ => .inl rfl⟩
        refine W_loop (ι := {j : Nat // j ≤ m}) (fun j => St.of [(2, .c (.ptr 66 0)), (4, lv (.string (strOfNums D))), (5, lv (.bool ng)), (7, .c (.own 160 1 0 m)), (8, lv (.int .i64 (i : Int))), (9, lv (.int .i64 (timC d (R.drop j.1)).2)), (10, lv (.int .i64 ((j.1 : Int) - 1)))] [(66, .cells [.lf (.v (.bool false)), .lf (.v (.slice none 0 0))]), (160, .row (.ints .u8 (R.take j.1 ++ (timC d (R.drop j.1)).1)))]) (fun j => j.1) (fun j => ?_) ⟨m, by omega⟩
        obtain ⟨j, hj⟩ := j
        dsimp only
        repeat (first | refine W_seq ?_ | refine W_region ?_ | refine W_block ?_ | refine W_skip ?_ | refine W_ret ?_ | refine W_exit ?_ | refine WL_nil ?_ | refine N_then ?_ | refine N_then_exit ?_ | refine N_then_ret ?_ | refine N_block ?_ | refine N_block_ret ?_ | refine N_block_exit ?_ | refine N_block_pass rfl ?_ | refine sp true rfl rfl (by rw [hn]; rfl) (by first | trivial | (simp; done) | (simp; omega) | (simp at *; done) | (simp at *; omega)) ?_ | refine sg true rfl rfl rfl (by rw [hn]; rfl) (by intro hG; first | trivial | (simp; done) | (simp; omega) | (simp at *; done) | (simp at *; omega)) ?_)
        refine W_cond rfl (by simp) (fun hq => ?_) (fun hq => ?_)
        · obtain ⟨k, rfl⟩ : ∃ k, j = k + 1 := ⟨j - 1, by simp at hq; omega⟩
          have hk : k < R.length := by omega
          have hx := d1 R[k] (List.getElem_mem hk)
          have hcr := tim_low d hdr (R.drop (k + 1)) (fun x hx => d1 x (List.mem_of_mem_drop hx))
          have e1 : ((k + 1 : Nat) : Int) - 1 = k := by omega
          have hdk : timC d (R.drop k) = ((10 * R[k] + (timC d (R.drop (k + 1))).2) % 256 :: (timC d (R.drop (k + 1))).1, (10 * R[k] + (timC d (R.drop (k + 1))).2) / 256) := by
            rw [List.drop_eq_getElem_cons hk]; rfl
          have hlt : (R.take k).length = k := by simp; omega
          have hTk : R.take (k + 1) = R.take k ++ [R[k]] := by rw [List.take_add_one, List.getElem?_eq_getElem hk]; rfl
          have hRl : (timC d (R.drop (k + 1))).1.length = m - (k + 1) := by rw [tim_len]; simp [hm]
          generalize hcc : (timC d (R.drop (k + 1))).2 = c at *
          generalize hRR : (timC d (R.drop (k + 1))).1 = S at *
          rw [hTk, e1, List.append_assoc, List.singleton_append]
          have hgk : (R.take k ++ R[k] :: S).getD (0 + (k : Int).toNat) 0 = R[k] := by
            simp [List.getElem?_append_right, hlt, hk]
          have hL : (R.take k ++ R[k] :: S).length = m := by simp [hRl]; omega
          repeat (first | refine W_seq ?_ | refine W_region ?_ | refine W_block ?_ | refine W_skip ?_ | refine W_ret ?_ | refine W_exit ?_ | refine WL_nil ?_ | refine N_then ?_ | refine N_then_exit ?_ | refine N_then_ret ?_ | refine N_block ?_ | refine N_block_ret ?_ | refine N_block_exit ?_ | refine N_block_pass rfl ?_ | refine sp true rfl rfl (by rw [hn]; rfl) (by first | trivial | (simp; done) | (simp; omega) | (simp at *; done) | (simp at *; omega)) ?_ | refine sg true rfl rfl rfl (by rw [hn]; rfl) (by intro hG; first | trivial | (simp; done) | (simp; omega) | (simp at *; done) | (simp at *; omega)) ?_)
          rw [hgk]
          repeat (first | refine W_seq ?_ | refine W_region ?_ | refine W_block ?_ | refine W_skip ?_ | refine W_ret ?_ | refine W_exit ?_ | refine WL_nil ?_ | refine N_then ?_ | refine N_then_exit ?_ | refine N_then_ret ?_ | refine N_block ?_ | refine N_block_ret ?_ | refine N_block_exit ?_ | refine N_block_pass rfl ?_ | refine sp true rfl rfl (by rw [hn]; rfl) (by first | trivial | (simp; done) | (simp; omega) | (simp at *; done) | (simp at *; omega)) ?_ | refine sg true rfl rfl rfl (by rw [hn]; rfl) (by intro hG; first | trivial | (simp; done) | (simp; omega) | (simp at *; done) | (simp at *; omega)) ?_)
          refine s_storeI rfl rfl rfl rfl rfl (by first | trivial | (simp; done) | (simp; omega) | (simp at *; done) | (simp at *; omega)) rfl (by rw [cellsOf5]) (by first | (simp; done) | (simp; omega) | (simp at *; omega)) ?_
          repeat (first | refine W_seq ?_ | refine W_region ?_ | refine W_block ?_ | refine W_skip ?_ | refine W_ret ?_ | refine W_exit ?_ | refine WL_nil ?_ | refine N_then ?_ | refine N_then_exit ?_ | refine N_then_ret ?_ | refine N_block ?_ | refine N_block_ret ?_ | refine N_block_exit ?_ | refine N_block_pass rfl ?_ | refine sp true rfl rfl (by rw [hn]; rfl) (by first | trivial | (simp; done) | (simp; omega) | (simp at *; done) | (simp at *; omega)) ?_ | refine sg true rfl rfl rfl (by rw [hn]; rfl) (by intro hG; first | trivial | (simp; done) | (simp; omega) | (simp at *; done) | (simp at *; omega)) ?_)
          refine N_round ⟨k, by omega⟩ (by dsimp only; omega) (St.le_of ⟨⟨rfl, rfl, rfl, rfl, rfl, ?_, rfl⟩, ⟨rfl, ?_⟩⟩)
          · show lv (.int .i64 ((10 * R[k] + c) / 256)) = lv (.int .i64 (timC d (R.drop k)).2)
            rw [hdk]
          · show Blk.row (.ints .u8 (List.set _ (0 + (k : Int).toNat) ((10 * R[k] + c) % 256))) = Blk.row (.ints .u8 (R.take k ++ (timC d (R.drop k)).1))
            rw [hdk, set_mid _ _ _ _ _ (by rw [hlt]; simp)]
        · have : j = 0 := by simp at hq; omega
          subst this
          have htl := tim_len d R
          have hlw := tim_low d hdr R d1
          rw [List.drop_zero, List.take_zero, List.nil_append]
          generalize hcc : (timC d R).2 = c at *
          generalize hRR : (timC d R).1 = S at *
          generalize hnx : digL (decV (D.take (i + 1))) = nx at *
          repeat (first | refine W_seq ?_ | refine W_region ?_ | refine W_block ?_ | refine W_skip ?_ | refine W_ret ?_ | refine W_exit ?_ | refine WL_nil ?_ | refine N_then ?_ | refine N_then_exit ?_ | refine N_then_ret ?_ | refine N_block ?_ | refine N_block_ret ?_ | refine N_block_exit ?_ | refine N_block_pass rfl ?_ | refine sp true rfl rfl (by rw [hn]; rfl) (by first | trivial | (simp; done) | (simp; omega) | (simp at *; done) | (simp at *; omega)) ?_ | refine sg true rfl rfl rfl (by rw [hn]; rfl) (by intro hG; first | trivial | (simp; done) | (simp; omega) | (simp at *; done) | (simp at *; omega)) ?_)
          refine W_join (St.of [(2, .c (.ptr 66 0)), (4, lv (.string (strOfNums D))), (5, lv (.bool ng)), (7, .c (.own 160 1 0 nx.length)), (8, lv (.int .i64 (i : Int)))] [(66, .cells [.lf (.v (.bool false)), .lf (.v (.slice none 0 0))]), (160, .row (.ints .u8 nx))]) ?_ ?_
          · refine W_cond rfl (by simp) (fun hr => ?_) (fun hr => ?_)
            · have hc0 : 0 < c := by simpa using hr
              rw [if_pos hc0] at hah
              repeat (first | refine W_seq ?_ | refine W_region ?_ | refine W_block ?_ | refine W_skip ?_ | refine W_ret ?_ | refine W_exit ?_ | refine WL_nil ?_ | refine N_then ?_ | refine N_then_exit ?_ | refine N_then_ret ?_ | refine N_block ?_ | refine N_block_ret ?_ | refine N_block_exit ?_ | refine N_block_pass rfl ?_ | refine sp true rfl rfl (by rw [hn]; rfl) (by first | trivial | (simp; done) | (simp; omega) | (simp at *; done) | (simp at *; omega)) ?_ | refine sg true rfl rfl rfl (by rw [hn]; rfl) (by intro hG; first | trivial | (simp; done) | (simp; omega) | (simp at *; done) | (simp at *; omega)) ?_)
              refine WL_freeze 160 [(7, B8 S)] rfl hb ⟨⟨rfl, rfl, rfl, by omega, by rw [List.drop_zero, List.take_of_length_le (by omega)]⟩, rfl⟩ ?_
              refine s_litI rfl rfl rfl (by rw [hn]; rfl) (elt_mk Try.underlying22 rfl rfl) (zok5) (by first | trivial | (simp; done) | (simp; omega) | (simp at *; done) | (simp at *; omega)) ⟨by decide, rfl⟩ ?_
              repeat (first | refine W_seq ?_ | refine W_region ?_ | refine W_block ?_ | refine W_skip ?_ | refine W_ret ?_ | refine W_exit ?_ | refine WL_nil ?_ | refine N_then ?_ | refine N_then_exit ?_ | refine N_then_ret ?_ | refine N_block ?_ | refine N_block_ret ?_ | refine N_block_exit ?_ | refine N_block_pass rfl ?_ | refine sp true rfl rfl (by rw [hn]; rfl) (by first | trivial | (simp; done) | (simp; omega) | (simp at *; done) | (simp at *; omega)) ?_ | refine sg true rfl rfl rfl (by rw [hn]; rfl) (by intro hG; first | trivial | (simp; done) | (simp; omega) | (simp at *; done) | (simp at *; omega)) ?_)
              refine s_appI rfl rfl rfl rfl rfl rfl (by rw [hn]; rfl) (elt_mk Try.underlying22 rfl rfl) rfl rfl rfl rfl (by first | trivial | (simp; done) | (simp; omega) | (simp at *; done) | (simp at *; omega)) (by first | rfl | (simp; done) | (simp; omega)) ⟨by first | (simp; done) | (simp; omega) | (simp at *; omega), by decide⟩ ?_
              repeat (first | refine W_seq ?_ | refine W_region ?_ | refine W_block ?_ | refine W_skip ?_ | refine W_ret ?_ | refine W_exit ?_ | refine WL_nil ?_ | refine N_then ?_ | refine N_then_exit ?_ | refine N_then_ret ?_ | refine N_block ?_ | refine N_block_ret ?_ | refine N_block_exit ?_ | refine N_block_pass rfl ?_ | refine sp true rfl rfl (by rw [hn]; rfl) (by first | trivial | (simp; done) | (simp; omega) | (simp at *; done) | (simp at *; omega)) ?_ | refine sg true rfl rfl rfl (by rw [hn]; rfl) (by intro hG; first | trivial | (simp; done) | (simp; omega) | (simp at *; done) | (simp at *; omega)) ?_)
              rw [← hah]
              (refine N_join ?_; refine St.le_of ⟨?_, ?_⟩ <;> (repeat' (first | exact trivial | exact rfl | refine ⟨?_, ?_⟩)) <;> first | exact rfl | (simp; done) | skip)
            · have hc0 : ¬ 0 < c := by simpa using hr
              rw [if_neg hc0] at hah
              rw [← hah]
              have htl2 : m = S.length := by omega
              rw [htl2]
              repeat (first | refine W_seq ?_ | refine W_region ?_ | refine W_block ?_ | refine W_skip ?_ | refine W_ret ?_ | refine W_exit ?_ | refine WL_nil ?_ | refine N_then ?_ | refine N_then_exit ?_ | refine N_then_ret ?_ | refine N_block ?_ | refine N_block_ret ?_ | refine N_block_exit ?_ | refine N_block_pass rfl ?_ | refine sp true rfl rfl (by rw [hn]; rfl) (by first | trivial | (simp; done) | (simp; omega) | (simp at *; done) | (simp at *; omega)) ?_ | refine sg true rfl rfl rfl (by rw [hn]; rfl) (by intro hG; first | trivial | (simp; done) | (simp; omega) | (simp at *; done) | (simp at *; omega)) ?_)
              (refine N_join ?_; refine St.le_of ⟨?_, ?_⟩ <;> (repeat' (first | exact trivial | exact rfl | refine ⟨?_, ?_⟩)) <;> first | exact rfl | (simp; done) | skip)
          repeat (first | refine W_seq ?_ | refine W_region ?_ | refine W_block ?_ | refine W_skip ?_ | refine W_ret ?_ | refine W_exit ?_ | refine WL_nil ?_ | refine N_then ?_ | refine N_then_exit ?_ | refine N_then_ret ?_ | refine N_block ?_ | refine N_block_ret ?_ | refine N_block_exit ?_ | refine N_block_pass rfl ?_ | refine sp true rfl rfl (by rw [hn]; rfl) (by first | trivial | (simp; done) | (simp; omega) | (simp at *; done) | (simp at *; omega)) ?_ | refine sg true rfl rfl rfl (by rw [hn]; rfl) (by intro hG; first | trivial | (simp; done) | (simp; omega) | (simp at *; done) | (simp at *; omega)) ?_)
          refine N_round ⟨i + 1, by omega⟩ (by dsimp only; omega) (St.le_of ⟨⟨rfl, rfl, rfl, ?_, rfl⟩, ⟨rfl, ?_⟩⟩)
          · rw [hnx]; rfl
          · rw [hnx]; rfl
      · have : i = D.length := by simp at hq; omega
        subst this
        rw [List.take_length] at hdl2 ⊢
        rw [hF]
        have hmk := refmade_ok ng (digL (decV D)) (by omega)
        rw [dig_trim] at hmk
        repeat (first | refine W_seq ?_ | refine W_region ?_ | refine W_block ?_ | refine W_skip ?_ | refine W_ret ?_ | refine W_exit ?_ | refine WL_nil ?_ | refine N_then ?_ | refine N_then_exit ?_ | refine N_then_ret ?_ | refine N_block ?_ | refine N_block_ret ?_ | refine N_block_exit ?_ | refine N_block_pass rfl ?_ | refine sp true rfl rfl (by rw [hn]; rfl) (by first | trivial | (simp; done) | (simp; omega) | (simp at *; done) | (simp at *; omega)) ?_ | refine sg true rfl rfl rfl (by rw [hn]; rfl) (by intro hG; first | trivial | (simp; done) | (simp; omega) | (simp at *; done) | (simp at *; omega)) ?_)
        refine WL_freeze 160 [(101, numA ng (digL (decV D)))] rfl hb ⟨⟨rfl, ⟨rfl, rfl, rfl, by simp, by simp⟩, trivial⟩, rfl⟩ ?_
        refine s_call0 (hmk) rfl rfl rfl (by rw [hn]; rfl) rfl rfl (by first | trivial | (simp; done) | (simp; omega) | (simp at *; done) | (simp at *; omega)) rfl rfl rfl ?_
        refine s_storeN rfl rfl rfl rfl rfl (by first | trivial | (simp; done) | (simp; omega) | (simp at *; done) | (simp at *; omega)) rfl rfl rfl (by rw [cellsOf24]; rfl) (by rw [info24]; rfl) rfl rfl ?_
        repeat (first | refine W_seq ?_ | refine W_region ?_ | refine W_block ?_ | refine W_skip ?_ | refine W_ret ?_ | refine W_exit ?_ | refine WL_nil ?_ | refine N_then ?_ | refine N_then_exit ?_ | refine N_then_ret ?_ | refine N_block ?_ | refine N_block_ret ?_ | refine N_block_exit ?_ | refine N_block_pass rfl ?_ | refine sp true rfl rfl (by rw [hn]; rfl) (by first | trivial | (simp; done) | (simp; omega) | (simp at *; done) | (simp at *; omega)) ?_ | refine sg true rfl rfl rfl (by rw [hn]; rfl) (by intro hG; first | trivial | (simp; done) | (simp; omega) | (simp at *; done) | (simp at *; omega)) ?_)
        exact N_retN [] rfl (by first | trivial | (simp; done) | (simp; omega) | (simp at *; done) | (simp at *; omega)) ⟨rfl, by first | trivial | exact ⟨rfl, rfl⟩, by first | trivial | exact rfl | exact ⟨rfl, rfl⟩, rfl⟩ hb rfl (by first | trivial | (simp; done))
end Go.Proofs.Ytppmfjopokkhmaa

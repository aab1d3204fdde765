/-
  Clock: contents of times, the program's and the document's; wholes. The conditions: the time is right.
-/
import Derived.Test.YthalijmfhllgbaaW20
namespace Go.Proofs.Ythalijmfhllgbaa
set_option linter.unusedSimpArgs false
set_option linter.unusedVariables false
open Go.Sx Dt

set_option maxRecDepth 10000

/-- A row of ints, as data. -/
abbrev IL (l : List Int) : Av := .c (.lf (.ints .i64 l))
def tw2 (n : Int) : List Int := [48 + n / 10 % 10, 48 + n % 10]
def tws2 (l : List Int) : List Int := l.flatMap tw2
@[simp] theorem tw2_len (n : Int) : (tw2 n).length = 2 := rfl
theorem tws2_len (l : List Int) : (tws2 l).length = 2 * l.length := by
  induction l with
  | nil => rfl
  | cons x t ih =>
    have : tws2 (x :: t) = tw2 x ++ tws2 t := rfl
    rw [this, List.length_append, ih, tw2_len, List.length_cons]; omega
theorem tws2_take {l : List Int} {i : Nat} (h : i < l.length) : tws2 (l.take (i + 1)) = tws2 (l.take i) ++ tw2 (l.getD i 0) := by
  rw [List.take_add_one, List.getElem?_eq_getElem h, List.getD_eq_getElem?_getD, List.getElem?_eq_getElem h]
  simp only [tws2, Option.toList_some, Option.getD_some, List.flatMap_append, List.flatMap_singleton]
theorem two_ok (n : Int) (h : 0 ≤ n ∧ n ≤ 100000) : Ct Try.prog 89 [lv (.int .i64 n)] [] (lv (.string (strOfNums (tw2 n)))) [] [] := by
  unfold tw2
  refine Ct_intro Try.func89 rfl rfl rfl rfl rfl (fun E hn hb => ?_)
  repeat (first | refine stp ?_ | refine N_block_pass rfl ?_ | refine sp1 ?_ | refine sg1 ?_ | refine WL_nil ?_)
  refine s_litI rfl rfl rfl (by rw [hn]; rfl) (elt_mk Try.underlying24 rfl rfl) (zok5) (by first | trivial | (simp; done) | (simp; omega) | (simp at *; done) | (simp at *; omega)) ⟨by decide, rfl⟩ ?_
  repeat (first | refine stp ?_ | refine N_block_pass rfl ?_ | refine sp1 ?_ | refine sg1 ?_ | refine WL_nil ?_)
  refine WL_q (opq_of (opy_str rfl Try.underlying24 Try.underlying5 Try.underlying9 rfl (by first | trivial | (simp; done) | (simp; omega) | (simp at *; done) | (simp at *; omega))) rfl) (by rw [hn]; rfl) ?_
  repeat (first | refine stp ?_ | refine N_block_pass rfl ?_ | refine sp1 ?_ | refine sg1 ?_ | refine WL_nil ?_)
  exact rt1 []
theorem four_ok (n : Int) (h : 0 ≤ n ∧ n ≤ 100000) : Ct Try.prog 88 [lv (.int .i64 n)] [] (lv (.string (strOfNums (tw2 (n / 100) ++ tw2 (n % 100))))) [] [] := by
  have h1 := two_ok (n / 100) (by omega)
  have h2 := two_ok (n % 100) (by omega)
  rw [← app_str]
  refine Ct_intro Try.func88 rfl rfl rfl rfl rfl (fun E hn hb => ?_)
  repeat (first | refine stp ?_ | refine N_block_pass rfl ?_ | refine sp1 ?_ | refine sg1 ?_ | refine WL_nil ?_)
  refine s_call0 h1 rfl rfl rfl (by rw [hn]; rfl) rfl rfl (by first | trivial | (simp; done) | (simp; omega) | (simp at *; done) | (simp at *; omega)) rfl rfl rfl ?_
  repeat (first | refine stp ?_ | refine N_block_pass rfl ?_ | refine sp1 ?_ | refine sg1 ?_ | refine WL_nil ?_)
  refine s_call0 h2 rfl rfl rfl (by rw [hn]; rfl) rfl rfl (by first | trivial | (simp; done) | (simp; omega) | (simp at *; done) | (simp at *; omega)) rfl rfl rfl ?_
  repeat (first | refine stp ?_ | refine N_block_pass rfl ?_ | refine sp1 ?_ | refine sg1 ?_ | refine WL_nil ?_)
  exact rt1 []
theorem twos_ok (l : List Int) (hl : l.length ≤ 1000) (hx : ∀ x ∈ l, 0 ≤ x ∧ x ≤ 100000) : Ct Try.prog 83 [IL l] [] (.c (.own 0 1 0 (tws2 l).length)) [] [.row (.ints .u8 (tws2 l))] := by
  refine Ct_intro Try.func83 rfl rfl rfl rfl rfl (fun E hn hb => ?_)
  repeat (first | refine stp ?_ | refine N_block_pass rfl ?_ | refine sp1 ?_ | refine sg1 ?_ | refine WL_nil ?_)
  refine W_own_nil 3 900 1 (.ints .u8 []) rfl rfl (.inl rfl) ?_
  refine W_weaken (St.le_of (l := [(3, .c (.own 900 1 0 0)), (6, IL l), (7, lv (.int .i64 (l.length : Int))), (8, lv (.int .i64 ((0 : Nat) : Int)))]) (h := [(900, .row (.ints .u8 []))]) (by refine ⟨?_, ?_⟩ <;> (repeat' (first | exact trivial | exact rfl | refine ⟨?_, ?_⟩)) <;> first | exact rfl | (simp; done) | skip)) ?_
  refine W_loop (ι := {i : Nat // i ≤ l.length}) (fun i => St.of [(3, .c (.own 900 1 0 (tws2 (l.take i.1)).length)), (6, IL l), (7, lv (.int .i64 (l.length : Int))), (8, lv (.int .i64 (i.1 : Int)))] [(900, .row (.ints .u8 (tws2 (l.take i.1))))]) (fun i => l.length - i.1) (fun i => ?_) ⟨0, by omega⟩
  obtain ⟨i, hi⟩ := i
  dsimp only
  have hal := tws2_len (l.take i)
  have hal2 : (l.take i).length ≤ 1000 := by simp; omega
  generalize hacc : tws2 (l.take i) = acc at *
  repeat (first | refine stp ?_ | refine N_block_pass rfl ?_ | refine sp1 ?_ | refine sg1 ?_ | refine WL_nil ?_)
  refine W_cond rfl (by simp) (fun hc => ?_) (fun hc => ?_)
  · have hi2 : i < l.length := by simpa using hc
    have hnext := tws2_take hi2
    have hxi : l.getD i 0 ∈ l := by rw [List.getD_eq_getElem?_getD, List.getElem?_eq_getElem hi2]; exact List.getElem_mem hi2
    have hx0 := hx _ hxi
    rw [hacc] at hnext
    generalize hX : l.getD i 0 = x at *
    repeat (first | refine stp ?_ | refine N_block_pass rfl ?_ | refine sp1 ?_ | refine sg1 ?_ | refine WL_nil ?_)
    rw [show l.getD (Int.toNat (i : Int)) 0 = x from hX]
    repeat (first | refine stp ?_ | refine N_block_pass rfl ?_ | refine sp1 ?_ | refine sg1 ?_ | refine WL_nil ?_)
    refine s_litI rfl rfl rfl (by rw [hn]; rfl) (elt_mk Try.underlying24 rfl rfl) (zok5) (by first | trivial | (simp; done) | (simp; omega) | (simp at *; done) | (simp at *; omega)) ⟨by decide, rfl⟩ ?_
    repeat (first | refine stp ?_ | refine N_block_pass rfl ?_ | refine sp1 ?_ | refine sg1 ?_ | refine WL_nil ?_)
    refine s_appI rfl rfl rfl rfl rfl rfl (by rw [hn]; rfl) (elt_mk Try.underlying24 rfl rfl) rfl rfl rfl rfl (by first | trivial | (simp; done) | (simp; omega) | (simp at *; done) | (simp at *; omega)) (by first | rfl | (simp; done) | (simp; omega)) ⟨by first | (simp; done) | (simp; omega) | (simp at *; omega), by decide⟩ ?_
    repeat (first | refine stp ?_ | refine N_block_pass rfl ?_ | refine sp1 ?_ | refine sg1 ?_ | refine WL_nil ?_)
    refine N_round ⟨i + 1, by omega⟩ (by dsimp only; omega) (St.le_of ⟨⟨?_, rfl, rfl, rfl⟩, ?_⟩)
    · rw [hnext]; rfl
    · rw [hnext]; rfl
  · have hi2 : i = l.length := by simp at hc; omega
    subst hi2
    rw [List.take_length] at hacc
    subst hacc
    repeat (first | refine stp ?_ | refine N_block_pass rfl ?_ | refine sp1 ?_ | refine sg1 ?_ | refine WL_nil ?_)
    exact rt1 [900]
/-- A moment's contents; a right time's. -/
def momL (k y m d h i s : Int) : List Int := (if k = 24 then tws2 [y / 100] else []) ++ tws2 [y % 100, m, d, h, i, s] ++ [90]
def con10 (k s : Int) : List Int := momL k (ofY (s / 86400)) (ofM (s / 86400)) (ofD (s / 86400)) (s % 86400 / 3600) (s % 86400 / 60 % 60) (s % 86400 % 60)
theorem right_at {k s : Int} (h : rightM k s = true) : atB s = true ∧ (k = 24 ∨ k = 23) := by
  unfold rightM at h
  by_cases ha : atB s = true
  · refine ⟨ha, ?_⟩
    simp at h
    omega
  · exfalso
    have := kind_at.2 (by simpa using ha)
    simp [this] at h
/-- What is known of a moment's parts. -/
theorem at_parts {s : Int} (h : atB s = true) : (0 ≤ ofY (s / 86400) ∧ ofY (s / 86400) ≤ 9999) ∧ (1 ≤ ofM (s / 86400) ∧ ofM (s / 86400) ≤ 12) ∧ (1 ≤ ofD (s / 86400) ∧ ofD (s / 86400) ≤ 31) ∧
    (0 ≤ s % 86400 / 3600 ∧ s % 86400 / 3600 ≤ 23) ∧ (0 ≤ s % 86400 / 60 % 60 ∧ s % 86400 / 60 % 60 ≤ 59) ∧ (0 ≤ s % 86400 % 60 ∧ s % 86400 % 60 ≤ 59) := by
  have h1 := (at_right h).1
  simp only [rightC, rightD, Bool.and_eq_true, decide_eq_true_eq] at h1
  have hm := days_pos (y := ofY (s / 86400)) (m := ofM (s / 86400)) (by omega)
  have hd31 : daysN (ofY (s / 86400)) (ofM (s / 86400)) ≤ 31 := by
    have := lp_01 (ofY (s / 86400))
    unfold daysN; (repeat' split) <;> omega
  omega
set_option maxHeartbeats 1000000 in
theorem con10_ok (k s : Int) (h : rightM k s = true) : Ct Try.prog 26 [timA k s] [] (.tup [B8 (con10 k s), lv (.int .i64 0)]) [] [] := by
  obtain ⟨ha, hk⟩ := right_at h
  have hr := rightM_ok k s
  rw [h] at hr
  have hp := at_parts ha
  have hat := pat_ok s ha
  unfold con10
  unfold atC at hat
  generalize ofY (s / 86400) = y at *
  generalize ofM (s / 86400) = m at *
  generalize ofD (s / 86400) = d at *
  generalize s % 86400 / 3600 = q1 at *
  generalize s % 86400 / 60 % 60 = q2 at *
  generalize s % 86400 % 60 = q3 at *
  have ht1 := twos_ok [y / 100] (by simp) (by simp; omega)
  have ht2 := twos_ok [y % 100, m, d, q1, q2, q3] (by simp) (by simp; omega)
  have l1 : (tws2 [y / 100]).length = 2 := tws2_len _
  have l2 : (tws2 [y % 100, m, d, q1, q2, q3]).length = 12 := tws2_len _
  unfold momL
  generalize tws2 [y % 100, m, d, q1, q2, q3] = Z at *
  generalize tws2 [y / 100] = X at *
  rcases hk with rfl | rfl
  · rw [if_pos rfl]
    refine Ct_intro Try.func26 rfl rfl rfl rfl rfl (fun E hn hb => ?_)
    repeat (first | refine stp ?_ | refine N_block_pass rfl ?_ | refine sp1 ?_ | refine sg1 ?_ | refine WL_nil ?_)
    refine s_boxN rfl rfl rfl (by rw [hn]; rfl) rfl (by first | trivial | (simp; done) | (simp; omega) | (simp at *; done) | (simp at *; omega)) rfl rfl ?_
    repeat (first | refine stp ?_ | refine N_block_pass rfl ?_ | refine sp1 ?_ | refine sg1 ?_ | refine WL_nil ?_)
    refine s_call0 hr rfl rfl rfl (by rw [hn]; rfl) rfl rfl (by first | trivial | (simp; done) | (simp; omega) | (simp at *; done) | (simp at *; omega)) rfl rfl rfl ?_
    repeat (first | refine stp ?_ | refine N_block_pass rfl ?_ | refine sp1 ?_ | refine sg1 ?_ | refine WL_nil ?_)
    refine W_cond rfl (by simp) (fun hc => ?_) (fun hc => ?_)
    · simp at hc
    repeat (first | refine stp ?_ | refine N_block_pass rfl ?_ | refine sp1 ?_ | refine sg1 ?_ | refine WL_nil ?_)
    refine s_call0 hat rfl rfl rfl (by rw [hn]; rfl) rfl rfl (by first | trivial | (simp; done) | (simp; omega) | (simp at *; done) | (simp at *; omega)) rfl rfl rfl ?_
    repeat (first | refine stp ?_ | refine N_block_pass rfl ?_ | refine sp1 ?_ | refine sg1 ?_ | refine WL_nil ?_)
    refine s_allocN rfl rfl rfl (by rw [hn]; rfl) rfl zok122 ?_
    refine s_storeN rfl rfl rfl rfl rfl (by first | trivial | (simp; done) | (simp; omega) | (simp at *; done) | (simp at *; omega)) rfl rfl rfl (by rw [cellsOf122]; rfl) (by rw [info122]; rfl) rfl rfl ?_
    repeat (first | refine stp ?_ | refine N_block_pass rfl ?_ | refine sp1 ?_ | refine sg1 ?_ | refine WL_nil ?_)
    refine W_cond rfl (by simp) (fun hc => ?_) (fun hc => ?_)
    · repeat (first | refine stp ?_ | refine N_block_pass rfl ?_ | refine sp1 ?_ | refine sg1 ?_ | refine WL_nil ?_)
      refine WL_q (opq_of (opy_lit (d := (.ints .i64 [y / 100])) rfl (elt_mk Try.underlying23 rfl rfl) zok3 rfl (by first | trivial | (simp; done) | (simp; omega) | (simp at *; done) | (simp at *; omega)) rfl ⟨by decide, by decide, rfl, rfl⟩) rfl) (by rw [hn]; rfl) ?_
      refine s_call1 ht1 rfl rfl rfl (by rw [hn]; rfl) rfl rfl (by first | trivial | (simp; done) | (simp; omega) | (simp at *; done) | (simp at *; omega)) rfl rfl rfl ?_
      repeat (first | refine stp ?_ | refine N_block_pass rfl ?_ | refine sp1 ?_ | refine sg1 ?_ | refine WL_nil ?_)
      refine WL_q (opq_of (opy_lit (d := (.ints .i64 [y % 100, m, d, q1, q2, q3])) rfl (elt_mk Try.underlying23 rfl rfl) zok3 rfl (by first | trivial | (simp; done) | (simp; omega) | (simp at *; done) | (simp at *; omega)) rfl ⟨by decide, by decide, rfl, rfl⟩) rfl) (by rw [hn]; rfl) ?_
      refine s_call1 ht2 rfl rfl rfl (by rw [hn]; rfl) rfl rfl (by first | trivial | (simp; done) | (simp; omega) | (simp at *; done) | (simp at *; omega)) rfl rfl rfl ?_
      repeat (first | refine stp ?_ | refine N_block_pass rfl ?_ | refine sp1 ?_ | refine sg1 ?_ | refine WL_nil ?_)
      refine s_appI rfl rfl rfl rfl rfl rfl (by rw [hn]; rfl) (elt_mk Try.underlying24 rfl rfl) rfl rfl rfl rfl (by first | trivial | (simp; done) | (simp; omega) | (simp at *; done) | (simp at *; omega)) (by first | rfl | (simp; done) | (simp; omega)) ⟨by first | (simp; done) | (simp; omega) | (simp at *; omega), by decide⟩ ?_
      repeat (first | refine stp ?_ | refine N_block_pass rfl ?_ | refine sp1 ?_ | refine sg1 ?_ | refine WL_nil ?_)
      refine s_litI rfl rfl rfl (by rw [hn]; rfl) (elt_mk Try.underlying24 rfl rfl) (zok5) (by first | trivial | (simp; done) | (simp; omega) | (simp at *; done) | (simp at *; omega)) ⟨by decide, rfl⟩ ?_
      repeat (first | refine stp ?_ | refine N_block_pass rfl ?_ | refine sp1 ?_ | refine sg1 ?_ | refine WL_nil ?_)
      refine s_appI rfl rfl rfl rfl rfl rfl (by rw [hn]; rfl) (elt_mk Try.underlying24 rfl rfl) rfl rfl rfl rfl (by first | trivial | (simp; done) | (simp; omega) | (simp at *; done) | (simp at *; omega)) (by first | rfl | (simp; done) | (simp; omega)) ⟨by first | (simp; done) | (simp; omega) | (simp at *; omega), by decide⟩ ?_
      repeat (first | refine stp ?_ | refine N_block_pass rfl ?_ | refine sp1 ?_ | refine sg1 ?_ | refine WL_nil ?_)
      refine N_freeze 88 [(2, B8 (X ++ Z ++ [90]))] rfl hb ⟨⟨rfl, rfl, rfl, by simp, by simp only [List.drop_zero, List.take_length, List.nil_append]⟩, rfl⟩ ?_
      exact rt1 []
    · simp at hc
  · rw [if_neg (by decide), List.nil_append]
    refine Ct_intro Try.func26 rfl rfl rfl rfl rfl (fun E hn hb => ?_)
    repeat (first | refine stp ?_ | refine N_block_pass rfl ?_ | refine sp1 ?_ | refine sg1 ?_ | refine WL_nil ?_)
    refine s_boxN rfl rfl rfl (by rw [hn]; rfl) rfl (by first | trivial | (simp; done) | (simp; omega) | (simp at *; done) | (simp at *; omega)) rfl rfl ?_
    repeat (first | refine stp ?_ | refine N_block_pass rfl ?_ | refine sp1 ?_ | refine sg1 ?_ | refine WL_nil ?_)
    refine s_call0 hr rfl rfl rfl (by rw [hn]; rfl) rfl rfl (by first | trivial | (simp; done) | (simp; omega) | (simp at *; done) | (simp at *; omega)) rfl rfl rfl ?_
    repeat (first | refine stp ?_ | refine N_block_pass rfl ?_ | refine sp1 ?_ | refine sg1 ?_ | refine WL_nil ?_)
    refine W_cond rfl (by simp) (fun hc => ?_) (fun hc => ?_)
    · simp at hc
    repeat (first | refine stp ?_ | refine N_block_pass rfl ?_ | refine sp1 ?_ | refine sg1 ?_ | refine WL_nil ?_)
    refine s_call0 hat rfl rfl rfl (by rw [hn]; rfl) rfl rfl (by first | trivial | (simp; done) | (simp; omega) | (simp at *; done) | (simp at *; omega)) rfl rfl rfl ?_
    repeat (first | refine stp ?_ | refine N_block_pass rfl ?_ | refine sp1 ?_ | refine sg1 ?_ | refine WL_nil ?_)
    refine s_allocN rfl rfl rfl (by rw [hn]; rfl) rfl zok122 ?_
    refine s_storeN rfl rfl rfl rfl rfl (by first | trivial | (simp; done) | (simp; omega) | (simp at *; done) | (simp at *; omega)) rfl rfl rfl (by rw [cellsOf122]; rfl) (by rw [info122]; rfl) rfl rfl ?_
    repeat (first | refine stp ?_ | refine N_block_pass rfl ?_ | refine sp1 ?_ | refine sg1 ?_ | refine WL_nil ?_)
    refine W_own_nil 6 900 1 (.ints .u8 []) rfl rfl (.inl rfl) ?_
    refine W_cond rfl (by simp) (fun hc => ?_) (fun hc => ?_)
    · simp at hc
    · repeat (first | refine stp ?_ | refine N_block_pass rfl ?_ | refine sp1 ?_ | refine sg1 ?_ | refine WL_nil ?_)
      refine WL_q (opq_of (opy_lit (d := (.ints .i64 [y % 100, m, d, q1, q2, q3])) rfl (elt_mk Try.underlying23 rfl rfl) zok3 rfl (by first | trivial | (simp; done) | (simp; omega) | (simp at *; done) | (simp at *; omega)) rfl ⟨by decide, by decide, rfl, rfl⟩) rfl) (by rw [hn]; rfl) ?_
      refine s_call1 ht2 rfl rfl rfl (by rw [hn]; rfl) rfl rfl (by first | trivial | (simp; done) | (simp; omega) | (simp at *; done) | (simp at *; omega)) rfl rfl rfl ?_
      repeat (first | refine stp ?_ | refine N_block_pass rfl ?_ | refine sp1 ?_ | refine sg1 ?_ | refine WL_nil ?_)
      refine s_appI rfl rfl rfl rfl rfl rfl (by rw [hn]; rfl) (elt_mk Try.underlying24 rfl rfl) rfl rfl rfl rfl (by first | trivial | (simp; done) | (simp; omega) | (simp at *; done) | (simp at *; omega)) (by first | rfl | (simp; done) | (simp; omega)) ⟨by first | (simp; done) | (simp; omega) | (simp at *; omega), by decide⟩ ?_
      repeat (first | refine stp ?_ | refine N_block_pass rfl ?_ | refine sp1 ?_ | refine sg1 ?_ | refine WL_nil ?_)
      refine s_litI rfl rfl rfl (by rw [hn]; rfl) (elt_mk Try.underlying24 rfl rfl) (zok5) (by first | trivial | (simp; done) | (simp; omega) | (simp at *; done) | (simp at *; omega)) ⟨by decide, rfl⟩ ?_
      repeat (first | refine stp ?_ | refine N_block_pass rfl ?_ | refine sp1 ?_ | refine sg1 ?_ | refine WL_nil ?_)
      refine s_appI rfl rfl rfl rfl rfl rfl (by rw [hn]; rfl) (elt_mk Try.underlying24 rfl rfl) rfl rfl rfl rfl (by first | trivial | (simp; done) | (simp; omega) | (simp at *; done) | (simp at *; omega)) (by first | rfl | (simp; done) | (simp; omega)) ⟨by first | (simp; done) | (simp; omega) | (simp at *; omega), by decide⟩ ?_
      repeat (first | refine stp ?_ | refine N_block_pass rfl ?_ | refine sp1 ?_ | refine sg1 ?_ | refine WL_nil ?_)
      refine N_freeze 900 [(2, B8 (Z ++ [90]))] rfl hb ⟨⟨rfl, rfl, rfl, by simp, by simp only [List.drop_zero, List.take_length, List.nil_append]⟩, rfl⟩ ?_
      exact rt1 []
theorem con10_err (k s : Int) (h : rightM k s = false) : Ct Try.prog 26 [timA k s] [] (.tup [B8 [], lv (.int .i64 1)]) [] [] := by
  have hr := rightM_ok k s
  rw [h] at hr
  refine Ct_intro Try.func26 rfl rfl rfl rfl rfl (fun E hn hb => ?_)
  repeat (first | refine stp ?_ | refine N_block_pass rfl ?_ | refine sp1 ?_ | refine sg1 ?_ | refine WL_nil ?_)
  refine s_boxN rfl rfl rfl (by rw [hn]; rfl) rfl (by first | trivial | (simp; done) | (simp; omega) | (simp at *; done) | (simp at *; omega)) rfl rfl ?_
  repeat (first | refine stp ?_ | refine N_block_pass rfl ?_ | refine sp1 ?_ | refine sg1 ?_ | refine WL_nil ?_)
  refine s_call0 hr rfl rfl rfl (by rw [hn]; rfl) rfl rfl (by first | trivial | (simp; done) | (simp; omega) | (simp at *; done) | (simp at *; omega)) rfl rfl rfl ?_
  repeat (first | refine stp ?_ | refine N_block_pass rfl ?_ | refine sp1 ?_ | refine sg1 ?_ | refine WL_nil ?_)
  refine W_cond rfl (by simp) (fun hc => ?_) (fun hc => ?_)
  · repeat (first | refine stp ?_ | refine N_block_pass rfl ?_ | refine sp1 ?_ | refine sg1 ?_ | refine WL_nil ?_)
    refine N_retU [] rfl (by simp) (r' := .tup [B8 [], lv (.int .i64 1)]) ⟨.inr ⟨rfl, .inl ⟨_, rfl⟩⟩, .inl rfl, trivial⟩ ⟨rfl, trivial, trivial, rfl⟩ hb rfl trivial
  · simp at hc
theorem momL_len (k y m d h i s : Int) : (momL k y m d h i s).length ≤ 15 := by
  unfold momL
  split <;> simp [tws2_len]
theorem con10_len (k s : Int) : (con10 k s).length ≤ 15 := momL_len ..
/-- A time's whole. -/
def whole10 (k s : Int) : List Int := wrapL (ofT k) (con10 k s)
theorem write10_ok (k s : Int) (h : rightM k s = true) : Ct Try.prog 28 [timA k s] [] (.tup [B8 (whole10 k s), lv (.int .i64 0)]) [] [] := by
  have hk := (right_at h).2
  have hc := con10_ok k s h
  have hl := con10_len k s
  have hrt : rightT (ofT k) = true := by rcases hk with rfl | rfl <;> decide
  unfold whole10
  generalize con10 k s = X at *
  have hwr := wrap_ok (ofT k) [X] hrt (by simp) (by simp; omega)
  rw [show [X].flatten = X by simp] at hwr
  have hof := headof_ok k
  generalize ofT k = t at *
  generalize wrapL t X = Y at *
  refine Ct_intro Try.func28 rfl rfl rfl rfl rfl (fun E hn hb => ?_)
  repeat (first | refine stp ?_ | refine N_block_pass rfl ?_ | refine sp1 ?_ | refine sg1 ?_ | refine WL_nil ?_)
  refine s_boxN rfl rfl rfl (by rw [hn]; rfl) rfl (by first | trivial | (simp; done) | (simp; omega) | (simp at *; done) | (simp at *; omega)) rfl rfl ?_
  repeat (first | refine stp ?_ | refine N_block_pass rfl ?_ | refine sp1 ?_ | refine sg1 ?_ | refine WL_nil ?_)
  refine s_call0 hc rfl rfl rfl (by rw [hn]; rfl) rfl rfl (by first | trivial | (simp; done) | (simp; omega) | (simp at *; done) | (simp at *; omega)) rfl rfl rfl ?_
  repeat (first | refine stp ?_ | refine N_block_pass rfl ?_ | refine sp1 ?_ | refine sg1 ?_ | refine WL_nil ?_)
  refine W_cond rfl (by simp) (fun h1 => ?_) (fun h1 => ?_)
  · simp at h1
  repeat (first | refine stp ?_ | refine N_block_pass rfl ?_ | refine sp1 ?_ | refine sg1 ?_ | refine WL_nil ?_)
  refine s_call0 hof rfl rfl rfl (by rw [hn]; rfl) rfl rfl (by first | trivial | (simp; done) | (simp; omega) | (simp at *; done) | (simp at *; omega)) rfl rfl rfl ?_
  repeat (first | refine stp ?_ | refine N_block_pass rfl ?_ | refine sp1 ?_ | refine sg1 ?_ | refine WL_nil ?_)
  refine WL_q (opq_of (opy_lit (d := (.recs 1 [[.ints .u8 X]])) rfl (elt_mk Try.underlying89 rfl rfl) zok24 rfl (by first | trivial | (simp; done) | (simp; omega) | (simp at *; done) | (simp at *; omega)) rfl ⟨by decide, by decide, rfl, rfl⟩) rfl) (by rw [hn]; rfl) ?_
  refine s_call0 hwr rfl rfl rfl (by rw [hn]; rfl) rfl rfl (by first | trivial | (simp; done) | (simp; omega) | (simp at *; done) | (simp at *; omega)) rfl rfl rfl ?_
  repeat (first | refine stp ?_ | refine N_block_pass rfl ?_ | refine sp1 ?_ | refine sg1 ?_ | refine WL_nil ?_)
  exact rt1 []
theorem write10_err (k s : Int) (h : rightM k s = false) : Ct Try.prog 28 [timA k s] [] (.tup [B8 [], lv (.int .i64 1)]) [] [] := by
  have hc := con10_err k s h
  refine Ct_intro Try.func28 rfl rfl rfl rfl rfl (fun E hn hb => ?_)
  repeat (first | refine stp ?_ | refine N_block_pass rfl ?_ | refine sp1 ?_ | refine sg1 ?_ | refine WL_nil ?_)
  refine s_boxN rfl rfl rfl (by rw [hn]; rfl) rfl (by first | trivial | (simp; done) | (simp; omega) | (simp at *; done) | (simp at *; omega)) rfl rfl ?_
  repeat (first | refine stp ?_ | refine N_block_pass rfl ?_ | refine sp1 ?_ | refine sg1 ?_ | refine WL_nil ?_)
  refine s_call0 hc rfl rfl rfl (by rw [hn]; rfl) rfl rfl (by first | trivial | (simp; done) | (simp; omega) | (simp at *; done) | (simp at *; omega)) rfl rfl rfl ?_
  repeat (first | refine stp ?_ | refine N_block_pass rfl ?_ | refine sp1 ?_ | refine sg1 ?_ | refine WL_nil ?_)
  refine W_cond rfl (by simp) (fun h1 => ?_) (fun h1 => ?_)
  · repeat (first | refine stp ?_ | refine N_block_pass rfl ?_ | refine sp1 ?_ | refine sg1 ?_ | refine WL_nil ?_)
    refine N_retU [] rfl (by simp) (r' := .tup [B8 [], lv (.int .i64 1)]) ⟨.inr ⟨rfl, .inl ⟨_, rfl⟩⟩, .inl rfl, trivial⟩ ⟨rfl, trivial, trivial, rfl⟩ hb rfl trivial
  · simp at h1
end Go.Proofs.Ythalijmfhllgbaa

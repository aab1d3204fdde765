/-
  Chapter 03: the document's contents of a number. The conditions: rows of at most a million bytes.
-/
import Derived.Test.YtppmfjopokkhmaaW8
namespace Go.Proofs.Ytppmfjopokkhmaa
set_option linter.unusedSimpArgs false
set_option linter.unusedVariables false
open Go.Sx

set_option maxRecDepth 10000

/-- Two rows of a number: noughts ahead. -/
def padL (s : List Int) (m : Nat) : List Int := List.replicate (m - s.length) 0 ++ s

def hd0 (l : List Int) : Int := l.getD 0 0
/-- Do these bytes hold the number? -/
def goodB (be : Bool) (s : List Int) : Bool := cond be (decide (128 ≤ hd0 (tcL s))) (decide (hd0 s < 128))
/-- The document's contents. -/
def refcL (be : Bool) (s : List Int) : List Int :=
  let t := if s ≠ [] ∧ goodB be s = true then s else 0 :: s
  cond be (tcL t) t
theorem incC_low : ∀ l : List Int, WfB l → 0 ≤ (incC l).2 ∧ (incC l).2 ≤ 1
  | [], _ => by simp [incC]
  | x :: l, h => by
    have h1 := incC_low l (fun y hy => h y (List.mem_cons_of_mem _ hy))
    have hx := h x (List.mem_cons_self ..)
    simp only [incC]
    omega
/-- A nought ahead is turned into 255. -/
theorem good_zero (x : Int) (s : List Int) (hx : x ≠ 0) (hw : WfB (x :: s)) : 128 ≤ hd0 (tcL (0 :: x :: s)) := by
  have h1 := incC_low (notL s) (wf_notL fun y hy => hw y (List.mem_cons_of_mem _ hy))
  have hx' := hw x (List.mem_cons_self ..)
  simp only [hd0, tcL, notL, List.map_cons, incC, List.getD_cons_zero]
  have : (255 - x + (incC (s.map fun x => 255 - x)).2) / 256 = 0 := by
    have h2 : 0 ≤ (incC (s.map fun x => 255 - x)).2 ∧ (incC (s.map fun x => 255 - x)).2 ≤ 1 := h1
    omega
  rw [this]
  decide

theorem refcont_own (b : Bool) (l : List Int) (hl : l.length ≤ 10000) (hw : WfB l) : Ct Try.prog 19 [numA b l] [] (.c (.own 0 1 0 (refcL (madeB b l) (trimL l)).length)) [] [.row (.ints .u8 (refcL (madeB b l) (trimL l)))] := by
  have hbs : madeB b l = true → trimL l ≠ [] := by
    intro h h'
    simp [madeB, h', Bool.cond_eq_ite] at h
  have ht := len_trim l
  refine Ct_intro Try.func19 rfl rfl rfl rfl rfl (fun E hn hb => ?_)
  repeat (first | refine W_seq ?_ | refine W_region ?_ | refine W_block ?_ | refine W_skip ?_ | refine W_ret ?_ | refine W_exit ?_ | refine WL_nil ?_ | refine N_then ?_ | refine N_then_exit ?_ | refine N_then_ret ?_ | refine N_block ?_ | refine N_block_ret ?_ | refine N_block_exit ?_ | refine N_block_pass rfl ?_ | refine sp true rfl rfl (by rw [hn]; rfl) (by first | trivial | (simp; done) | (simp; omega) | (simp at *; done) | (simp at *; omega)) ?_ | refine sg true rfl rfl rfl (by rw [hn]; rfl) (by intro hG; first | trivial | (simp; done) | (simp; omega) | (simp at *; done) | (simp at *; omega)) ?_)
  refine s_boxN rfl rfl rfl (by rw [hn]; rfl) rfl (by first | trivial | (simp; done) | (simp; omega) | (simp at *; done) | (simp at *; omega)) rfl rfl ?_
  repeat (first | refine W_seq ?_ | refine W_region ?_ | refine W_block ?_ | refine W_skip ?_ | refine W_ret ?_ | refine W_exit ?_ | refine WL_nil ?_ | refine N_then ?_ | refine N_then_exit ?_ | refine N_then_ret ?_ | refine N_block ?_ | refine N_block_ret ?_ | refine N_block_exit ?_ | refine N_block_pass rfl ?_ | refine sp true rfl rfl (by rw [hn]; rfl) (by first | trivial | (simp; done) | (simp; omega) | (simp at *; done) | (simp at *; omega)) ?_ | refine sg true rfl rfl rfl (by rw [hn]; rfl) (by intro hG; first | trivial | (simp; done) | (simp; omega) | (simp at *; done) | (simp at *; omega)) ?_)
  refine s_call0 (refmade_ok b l (by omega)) rfl rfl rfl (by rw [hn]; rfl) rfl rfl (by first | trivial | (simp; done) | (simp; omega) | (simp at *; done) | (simp at *; omega)) rfl rfl rfl ?_
  refine s_storeN rfl rfl rfl rfl rfl (by first | trivial | (simp; done) | (simp; omega) | (simp at *; done) | (simp at *; omega)) rfl rfl rfl (by rw [cellsOf24]; rfl) (by rw [info24]; rfl) rfl rfl ?_
  repeat (first | refine W_seq ?_ | refine W_region ?_ | refine W_block ?_ | refine W_skip ?_ | refine W_ret ?_ | refine W_exit ?_ | refine WL_nil ?_ | refine N_then ?_ | refine N_then_exit ?_ | refine N_then_ret ?_ | refine N_block ?_ | refine N_block_ret ?_ | refine N_block_exit ?_ | refine N_block_pass rfl ?_ | refine sp true rfl rfl (by rw [hn]; rfl) (by first | trivial | (simp; done) | (simp; omega) | (simp at *; done) | (simp at *; omega)) ?_ | refine sg true rfl rfl rfl (by rw [hn]; rfl) (by intro hG; first | trivial | (simp; done) | (simp; omega) | (simp at *; done) | (simp at *; omega)) ?_)
  refine W_weaken (St.le_of (l := [(1, .c (.ptr 65 0)), (3, lv (.int .i64 1))]) (h := [(65, .cells [.lf (.v (.bool (madeB b l))), .lf (.ints .u8 (trimL l))])]) (by refine ⟨?_, ?_⟩ <;> (repeat' (first | exact trivial | exact rfl | refine ⟨?_, ?_⟩)) <;> first | exact rfl | (simp; done) | skip)) ?_
  generalize hs : trimL l = s at *
  generalize hbe : madeB b l = be at *
  refine W_loop (ι := {m : Nat // 1 ≤ m ∧ m ≤ s.length + 1 ∧ (m = s.length + 1 → s ≠ [] → goodB be s = false)}) (fun m => St.of [(1, .c (.ptr 65 0)), (3, lv (.int .i64 (m.1 : Int)))] [(65, .cells [.lf (.v (.bool be)), .lf (.ints .u8 s)])]) (fun m => s.length + 1 - m.1) (fun m => ?_) ⟨1, by omega, by omega, fun h h' => absurd (List.eq_nil_of_length_eq_zero (by omega)) h'⟩
  obtain ⟨m, hm1, hm2, hbad⟩ := m
  dsimp only
  repeat (first | refine W_seq ?_ | refine W_region ?_ | refine W_block ?_ | refine W_skip ?_ | refine W_ret ?_ | refine W_exit ?_ | refine WL_nil ?_ | refine N_then ?_ | refine N_then_exit ?_ | refine N_then_ret ?_ | refine N_block ?_ | refine N_block_ret ?_ | refine N_block_exit ?_ | refine N_block_pass rfl ?_ | refine sp true rfl rfl (by rw [hn]; rfl) (by first | trivial | (simp; done) | (simp; omega) | (simp at *; done) | (simp at *; omega)) ?_ | refine sg true rfl rfl rfl (by rw [hn]; rfl) (by intro hG; first | trivial | (simp; done) | (simp; omega) | (simp at *; done) | (simp at *; omega)) ?_)
  refine W_cond rfl (by simp) (fun hc => ?_) (fun hc => ?_)
  · repeat (first | refine W_seq ?_ | refine W_region ?_ | refine W_block ?_ | refine W_skip ?_ | refine W_ret ?_ | refine W_exit ?_ | refine WL_nil ?_ | refine N_then ?_ | refine N_then_exit ?_ | refine N_then_ret ?_ | refine N_block ?_ | refine N_block_ret ?_ | refine N_block_exit ?_ | refine N_block_pass rfl ?_ | refine sp true rfl rfl (by rw [hn]; rfl) (by first | trivial | (simp; done) | (simp; omega) | (simp at *; done) | (simp at *; omega)) ?_ | refine sg true rfl rfl rfl (by rw [hn]; rfl) (by intro hG; first | trivial | (simp; done) | (simp; omega) | (simp at *; done) | (simp at *; omega)) ?_)
    (refine N_round ?i1 ?i2 ?i3; (case i1 => exact ⟨m + 1, by omega, by simp at hc; omega, by simp at hc; omega⟩); (case i2 => (simp at hc; dsimp only; omega)); (case i3 => refine St.le_of ⟨?_, ?_⟩ <;> (repeat' (first | exact trivial | exact rfl | refine ⟨?_, ?_⟩)) <;> first | exact rfl | (simp; done) | skip))
  · have hsm : s.length ≤ m := by simp at hc; omega
    repeat (first | refine W_seq ?_ | refine W_region ?_ | refine W_block ?_ | refine W_skip ?_ | refine W_ret ?_ | refine W_exit ?_ | refine WL_nil ?_ | refine N_then ?_ | refine N_then_exit ?_ | refine N_then_ret ?_ | refine N_block ?_ | refine N_block_ret ?_ | refine N_block_exit ?_ | refine N_block_pass rfl ?_ | refine sp true rfl rfl (by rw [hn]; rfl) (by first | trivial | (simp; done) | (simp; omega) | (simp at *; done) | (simp at *; omega)) ?_ | refine sg true rfl rfl rfl (by rw [hn]; rfl) (by intro hG; first | trivial | (simp; done) | (simp; omega) | (simp at *; done) | (simp at *; omega)) ?_)
    refine s_makeI (by_ := 1) rfl rfl rfl (by rw [hn]; rfl) (elt_mk Try.underlying22 rfl rfl) rfl rfl rfl (by first | trivial | (simp; done) | (simp; omega) | (simp at *; done) | (simp at *; omega)) m (by first | rfl | (simp; done) | omega) (by first | (simp; done) | omega | (simp at *; omega)) ?_
    repeat (first | refine W_seq ?_ | refine W_region ?_ | refine W_block ?_ | refine W_skip ?_ | refine W_ret ?_ | refine W_exit ?_ | refine WL_nil ?_ | refine N_then ?_ | refine N_then_exit ?_ | refine N_then_ret ?_ | refine N_block ?_ | refine N_block_ret ?_ | refine N_block_exit ?_ | refine N_block_pass rfl ?_ | refine sp true rfl rfl (by rw [hn]; rfl) (by first | trivial | (simp; done) | (simp; omega) | (simp at *; done) | (simp at *; omega)) ?_ | refine sg true rfl rfl rfl (by rw [hn]; rfl) (by intro hG; first | trivial | (simp; done) | (simp; omega) | (simp at *; done) | (simp at *; omega)) ?_)
    refine W_weaken (St.le_of (l := [(1, .c (.ptr 65 0)), (3, lv (.int .i64 (m : Int))), (4, .c (.own 83 1 0 m)), (5, lv (.int .i64 0))]) (h := [(65, .cells [.lf (.v (.bool be)), .lf (.ints .u8 s)]), (83, .row (.ints .u8 (List.replicate m 0)))]) (by refine ⟨?_, ?_⟩ <;> (repeat' (first | exact trivial | exact rfl | refine ⟨?_, ?_⟩)) <;> first | exact rfl | (simp; done) | skip)) ?_
    have e0 : List.replicate m (0 : Int) = List.replicate (m - s.length) 0 ++ fillUp s 0 := by
      rw [fillUp_zero, List.replicate_append_replicate]; congr 1; omega
    rw [e0]
    refine W_loop (ι := {i : Nat // i ≤ s.length}) (fun i => St.of [(1, .c (.ptr 65 0)), (3, lv (.int .i64 (m : Int))), (4, .c (.own 83 1 0 m)), (5, lv (.int .i64 (i.1 : Int)))] [(65, .cells [.lf (.v (.bool be)), .lf (.ints .u8 s)]), (83, .row (.ints .u8 (List.replicate (m - s.length) 0 ++ fillUp s i.1)))]) (fun i => s.length - i.1) (fun i => ?_) ⟨0, by omega⟩
    obtain ⟨i, hi⟩ := i
    dsimp only
    have hfl := fillUp_length s i
    repeat (first | refine W_seq ?_ | refine W_region ?_ | refine W_block ?_ | refine W_skip ?_ | refine W_ret ?_ | refine W_exit ?_ | refine WL_nil ?_ | refine N_then ?_ | refine N_then_exit ?_ | refine N_then_ret ?_ | refine N_block ?_ | refine N_block_ret ?_ | refine N_block_exit ?_ | refine N_block_pass rfl ?_ | refine sp true rfl rfl (by rw [hn]; rfl) (by first | trivial | (simp; done) | (simp; omega) | (simp at *; done) | (simp at *; omega)) ?_ | refine sg true rfl rfl rfl (by rw [hn]; rfl) (by intro hG; first | trivial | (simp; done) | (simp; omega) | (simp at *; done) | (simp at *; omega)) ?_)
    refine W_cond rfl (by simp) (fun hc => ?_) (fun hc => ?_)
    · have hi8 : i < s.length := by simp at hc; omega
      repeat (first | refine W_seq ?_ | refine W_region ?_ | refine W_block ?_ | refine W_skip ?_ | refine W_ret ?_ | refine W_exit ?_ | refine WL_nil ?_ | refine N_then ?_ | refine N_then_exit ?_ | refine N_then_ret ?_ | refine N_block ?_ | refine N_block_ret ?_ | refine N_block_exit ?_ | refine N_block_pass rfl ?_ | refine sp true rfl rfl (by rw [hn]; rfl) (by first | trivial | (simp; done) | (simp; omega) | (simp at *; done) | (simp at *; omega)) ?_ | refine sg true rfl rfl rfl (by rw [hn]; rfl) (by intro hG; first | trivial | (simp; done) | (simp; omega) | (simp at *; done) | (simp at *; omega)) ?_)
      refine W_drawW 14 (by kernel_rfl) (by kernel_rfl) (by kernel_rfl) (by rw [hn]; rfl) rfl rfl ?_
      repeat (first | refine DrawW_cons rfl (ops_pure true rfl rfl (by first | trivial | (simp; done) | (simp; omega) | (simp at *; done) | (simp at *; omega))) ?_ | refine DrawW_cons rfl (ops_pureG true rfl rfl rfl (by intro hG; first | trivial | (simp; done) | (simp; omega) | (simp at *; done) | (simp at *; omega))) ?_ | refine DrawW_nil ?_)
      repeat (first | refine W_seq ?_ | refine W_region ?_ | refine W_block ?_ | refine W_skip ?_ | refine W_ret ?_ | refine W_exit ?_ | refine WL_nil ?_ | refine N_then ?_ | refine N_then_exit ?_ | refine N_then_ret ?_ | refine N_block ?_ | refine N_block_ret ?_ | refine N_block_exit ?_ | refine N_block_pass rfl ?_ | refine sp true rfl rfl (by rw [hn]; rfl) (by first | trivial | (simp; done) | (simp; omega) | (simp at *; done) | (simp at *; omega)) ?_ | refine sg true rfl rfl rfl (by rw [hn]; rfl) (by intro hG; first | trivial | (simp; done) | (simp; omega) | (simp at *; done) | (simp at *; omega)) ?_)
      refine s_storeI rfl rfl rfl rfl rfl (by first | trivial | (simp; done) | (simp; omega) | (simp at *; done) | (simp at *; omega)) rfl (by rw [cellsOf5]) (by first | (simp; done) | (simp; omega) | (simp at *; omega)) ?_
      repeat (first | refine W_seq ?_ | refine W_region ?_ | refine W_block ?_ | refine W_skip ?_ | refine W_ret ?_ | refine W_exit ?_ | refine WL_nil ?_ | refine N_then ?_ | refine N_then_exit ?_ | refine N_then_ret ?_ | refine N_block ?_ | refine N_block_ret ?_ | refine N_block_exit ?_ | refine N_block_pass rfl ?_ | refine sp true rfl rfl (by rw [hn]; rfl) (by first | trivial | (simp; done) | (simp; omega) | (simp at *; done) | (simp at *; omega)) ?_ | refine sg true rfl rfl rfl (by rw [hn]; rfl) (by intro hG; first | trivial | (simp; done) | (simp; omega) | (simp at *; done) | (simp at *; omega)) ?_)
      have hx : s[i]? = some s[i] := by simp [hi8]
      refine N_round ⟨i + 1, by omega⟩ (by dsimp only; omega) (St.le_of ⟨⟨rfl, rfl, rfl, rfl⟩, ⟨rfl, ?_⟩⟩)
      show Blk.row (.ints .u8 (List.set _ (0 + ((m : Int) - s.length + i).toNat) (s.getD (i : Int).toNat 0))) = Blk.row (.ints .u8 (List.replicate (m - s.length) 0 ++ fillUp s (i + 1)))
      rw [← fillUp_set s i _ hx]
      have e1 : 0 + ((m : Int) - s.length + i).toNat = m - s.length + i := by omega
      rw [e1, List.set_append_right _ _ (by simp)]
      simp [hi8]
    · have : i = s.length := by simp at hc; omega
      subst this
      rw [fillUp_all]
      repeat (first | refine W_seq ?_ | refine W_region ?_ | refine W_block ?_ | refine W_skip ?_ | refine W_ret ?_ | refine W_exit ?_ | refine WL_nil ?_ | refine N_then ?_ | refine N_then_exit ?_ | refine N_then_ret ?_ | refine N_block ?_ | refine N_block_ret ?_ | refine N_block_exit ?_ | refine N_block_pass rfl ?_ | refine sp true rfl rfl (by rw [hn]; rfl) (by first | trivial | (simp; done) | (simp; omega) | (simp at *; done) | (simp at *; omega)) ?_ | refine sg true rfl rfl rfl (by rw [hn]; rfl) (by intro hG; first | trivial | (simp; done) | (simp; omega) | (simp at *; done) | (simp at *; omega)) ?_)
      have hpl : (padL s m).length = m := by simp [padL]; omega
      refine W_cond rfl (by simp) (fun h5 => ?_) (fun h5 => ?_)
      · have hbe' : be = false := by simpa using h5
        subst hbe'
        have hp0 : hd0 (padL s m) < 128 → padL s m = refcL false s := by
          intro hlt
          rcases Nat.lt_or_ge s.length m with h | h
          · have hm : m = s.length + 1 := by omega
            have hp : padL s m = 0 :: s := by rw [hm, padL]; simp
            rw [hp]
            by_cases hne : s = []
            · simp [refcL, hne]
            · simp [refcL, hbad hm hne]
          · have hm : m = s.length := by omega
            have hp : padL s m = s := by rw [hm, padL]; simp
            have hne : s ≠ [] := by intro h; rw [h] at hm; simp at hm; omega
            rw [hp] at hlt ⊢
            simp [refcL, hne, goodB, hlt]
        repeat (first | refine W_seq ?_ | refine W_region ?_ | refine W_block ?_ | refine W_skip ?_ | refine W_ret ?_ | refine W_exit ?_ | refine WL_nil ?_ | refine N_then ?_ | refine N_then_exit ?_ | refine N_then_ret ?_ | refine N_block ?_ | refine N_block_ret ?_ | refine N_block_exit ?_ | refine N_block_pass rfl ?_ | refine sp true rfl rfl (by rw [hn]; rfl) (by first | trivial | (simp; done) | (simp; omega) | (simp at *; done) | (simp at *; omega)) ?_ | refine sg true rfl rfl rfl (by rw [hn]; rfl) (by intro hG; first | trivial | (simp; done) | (simp; omega) | (simp at *; done) | (simp at *; omega)) ?_)
        refine W_cond rfl (by simp) (fun h6 => ?_) (fun h6 => ?_)
        · have e := hp0 (by simpa [hd0, padL] using h6)
          have el : m = (refcL false s).length := by rw [← e, hpl]
          repeat (first | refine W_seq ?_ | refine W_region ?_ | refine W_block ?_ | refine W_skip ?_ | refine W_ret ?_ | refine W_exit ?_ | refine WL_nil ?_ | refine N_then ?_ | refine N_then_exit ?_ | refine N_then_ret ?_ | refine N_block ?_ | refine N_block_ret ?_ | refine N_block_exit ?_ | refine N_block_pass rfl ?_ | refine sp true rfl rfl (by rw [hn]; rfl) (by first | trivial | (simp; done) | (simp; omega) | (simp at *; done) | (simp at *; omega)) ?_ | refine sg true rfl rfl rfl (by rw [hn]; rfl) (by intro hG; first | trivial | (simp; done) | (simp; omega) | (simp at *; done) | (simp at *; omega)) ?_)
          refine N_retN [83] rfl (by first | trivial | (simp; done) | (simp; omega) | (simp at *; done) | (simp at *; omega)) ⟨?_, by first | trivial | exact ⟨rfl, rfl⟩, ?_, rfl⟩ hb rfl (by first | trivial | (simp; done) | (simp [ordL]; done))
          · rw [← el]; rfl
          · exact congrArg (fun l => Blk.row (.ints .u8 l)) e
        · have h7 : ¬ hd0 (padL s m) < 128 := by simpa [hd0, padL] using h6
          have hm : m = s.length := by
            rcases Nat.lt_or_ge s.length m with h | h
            · have hp : padL s m = 0 :: s := by rw [show m = s.length + 1 by omega, padL]; simp
              rw [hp] at h7
              exact absurd (by simp [hd0]) h7
            · omega
          have hp : padL s m = s := by rw [hm, padL]; simp
          rw [hp] at h7
          repeat (first | refine W_seq ?_ | refine W_region ?_ | refine W_block ?_ | refine W_skip ?_ | refine W_ret ?_ | refine W_exit ?_ | refine WL_nil ?_ | refine N_then ?_ | refine N_then_exit ?_ | refine N_then_ret ?_ | refine N_block ?_ | refine N_block_ret ?_ | refine N_block_exit ?_ | refine N_block_pass rfl ?_ | refine sp true rfl rfl (by rw [hn]; rfl) (by first | trivial | (simp; done) | (simp; omega) | (simp at *; done) | (simp at *; omega)) ?_ | refine sg true rfl rfl rfl (by rw [hn]; rfl) (by intro hG; first | trivial | (simp; done) | (simp; omega) | (simp at *; done) | (simp at *; omega)) ?_)
          (refine N_round ?i1 ?i2 ?i3; (case i1 => exact ⟨m + 1, by omega, by omega, fun _ _ => by simpa [goodB] using h7⟩); (case i2 => (dsimp only; omega)); (case i3 => refine St.le_of ⟨?_, ?_⟩ <;> (repeat' (first | exact trivial | exact rfl | refine ⟨?_, ?_⟩)) <;> first | exact rfl | (simp; done) | skip))
      · have hbe' : be = true := by simpa using h5
        subst hbe'
        repeat (first | refine W_seq ?_ | refine W_region ?_ | refine W_block ?_ | refine W_skip ?_ | refine W_ret ?_ | refine W_exit ?_ | refine WL_nil ?_ | refine N_then ?_ | refine N_then_exit ?_ | refine N_then_ret ?_ | refine N_block ?_ | refine N_block_ret ?_ | refine N_block_exit ?_ | refine N_block_pass rfl ?_ | refine sp true rfl rfl (by rw [hn]; rfl) (by first | trivial | (simp; done) | (simp; omega) | (simp at *; done) | (simp at *; omega)) ?_ | refine sg true rfl rfl rfl (by rw [hn]; rfl) (by intro hG; first | trivial | (simp; done) | (simp; omega) | (simp at *; done) | (simp at *; omega)) ?_)
        have hwP : WfB (padL s m) := by
          intro x hx
          rcases List.mem_append.1 hx with h | h
          · obtain ⟨_, rfl⟩ := List.mem_replicate.1 h; omega
          · rw [← hs] at h; exact wf_trim hw x h
        refine W_weaken (St.le_of (l := [(1, .c (.ptr 65 0)), (3, lv (.int .i64 (m : Int))), (4, .c (.own 83 1 0 m)), (6, lv (.int .i64 1)), (7, lv (.int .i64 ((m : Int) - 1)))]) (h := [(65, .cells [.lf (.v (.bool true)), .lf (.ints .u8 s)]), (83, .row (.ints .u8 (padL s m)))]) (by refine ⟨?_, ?_⟩ <;> (repeat' (first | exact trivial | exact rfl | refine ⟨?_, ?_⟩)) <;> first | exact rfl | (simp; done) | skip)) ?_
        generalize hP : padL s m = P at *
        have e2 : P = P.take m ++ (incC (notL (P.drop m))).1 := by
          rw [List.take_of_length_le (by omega), List.drop_of_length_le (by omega)]; simp [notL, incC]
        have e3 : (1 : Int) = (incC (notL (P.drop m))).2 := by rw [List.drop_of_length_le (by omega)]; rfl
        refine W_weaken (τ := St.of [(1, .c (.ptr 65 0)), (3, lv (.int .i64 (m : Int))), (4, .c (.own 83 1 0 m)), (6, lv (.int .i64 (incC (notL (P.drop m))).2)), (7, lv (.int .i64 ((m : Int) - 1)))] [(65, .cells [.lf (.v (.bool true)), .lf (.ints .u8 s)]), (83, .row (.ints .u8 (P.take m ++ (incC (notL (P.drop m))).1)))]) ?_ ?_
        · rw [← e2, ← e3]; exact ⟨fun _ => .inl rfl, fun _ => .inl rfl⟩
        refine W_loop (ι := {j : Nat // j ≤ m}) (fun j => St.of [(1, .c (.ptr 65 0)), (3, lv (.int .i64 (m : Int))), (4, .c (.own 83 1 0 m)), (6, lv (.int .i64 (incC (notL (P.drop j.1))).2)), (7, lv (.int .i64 ((j.1 : Int) - 1)))] [(65, .cells [.lf (.v (.bool true)), .lf (.ints .u8 s)]), (83, .row (.ints .u8 (P.take j.1 ++ (incC (notL (P.drop j.1))).1)))]) (fun j => j.1) (fun j => ?_) ⟨m, by omega⟩
        obtain ⟨j, hj⟩ := j
        dsimp only
        repeat (first | refine W_seq ?_ | refine W_region ?_ | refine W_block ?_ | refine W_skip ?_ | refine W_ret ?_ | refine W_exit ?_ | refine WL_nil ?_ | refine N_then ?_ | refine N_then_exit ?_ | refine N_then_ret ?_ | refine N_block ?_ | refine N_block_ret ?_ | refine N_block_exit ?_ | refine N_block_pass rfl ?_ | refine sp true rfl rfl (by rw [hn]; rfl) (by first | trivial | (simp; done) | (simp; omega) | (simp at *; done) | (simp at *; omega)) ?_ | refine sg true rfl rfl rfl (by rw [hn]; rfl) (by intro hG; first | trivial | (simp; done) | (simp; omega) | (simp at *; done) | (simp at *; omega)) ?_)
        refine W_cond rfl (by simp) (fun hq => ?_) (fun hq => ?_)
        · obtain ⟨i, rfl⟩ : ∃ i, j = i + 1 := ⟨j - 1, by simp at hq; omega⟩
          have hi : i < P.length := by omega
          have hx := hwP P[i] (List.getElem_mem hi)
          have hcr := incC_low (notL (P.drop (i + 1))) (wf_notL fun x hx => hwP x (List.mem_of_mem_drop hx))
          have e1 : ((i + 1 : Nat) : Int) - 1 = i := by omega
          have hd : incC (notL (P.drop i)) = ((255 - P[i] + (incC (notL (P.drop (i + 1)))).2) % 256 :: (incC (notL (P.drop (i + 1)))).1, (255 - P[i] + (incC (notL (P.drop (i + 1)))).2) / 256) := by
            rw [List.drop_eq_getElem_cons hi]; simp only [notL, List.map_cons, incC]
          have hlt : (P.take i).length = i := by simp; omega
          have hT : P.take (i + 1) = P.take i ++ [P[i]] := by rw [List.take_add_one, List.getElem?_eq_getElem hi]; rfl
          have hRl : (incC (notL (P.drop (i + 1)))).1.length = m - (i + 1) := by rw [len_incC]; simp [notL, hpl]
          generalize hcc : (incC (notL (P.drop (i + 1)))).2 = c at *
          generalize hRR : (incC (notL (P.drop (i + 1)))).1 = R at *
          rw [hT, e1, List.append_assoc, List.singleton_append]
          have hg : (P.take i ++ P[i] :: R).getD (0 + (i : Int).toNat) 0 = P[i] := by
            simp [List.getElem?_append_right, hlt, hi]
          have hL : (P.take i ++ P[i] :: R).length = m := by simp [hRl]; omega
          repeat (first | refine W_seq ?_ | refine W_region ?_ | refine W_block ?_ | refine W_skip ?_ | refine W_ret ?_ | refine W_exit ?_ | refine WL_nil ?_ | refine N_then ?_ | refine N_then_exit ?_ | refine N_then_ret ?_ | refine N_block ?_ | refine N_block_ret ?_ | refine N_block_exit ?_ | refine N_block_pass rfl ?_ | refine sp true rfl rfl (by rw [hn]; rfl) (by first | trivial | (simp; done) | (simp; omega) | (simp at *; done) | (simp at *; omega)) ?_ | refine sg true rfl rfl rfl (by rw [hn]; rfl) (by intro hG; first | trivial | (simp; done) | (simp; omega) | (simp at *; done) | (simp at *; omega)) ?_)
          rw [hg]
          repeat (first | refine W_seq ?_ | refine W_region ?_ | refine W_block ?_ | refine W_skip ?_ | refine W_ret ?_ | refine W_exit ?_ | refine WL_nil ?_ | refine N_then ?_ | refine N_then_exit ?_ | refine N_then_ret ?_ | refine N_block ?_ | refine N_block_ret ?_ | refine N_block_exit ?_ | refine N_block_pass rfl ?_ | refine sp true rfl rfl (by rw [hn]; rfl) (by first | trivial | (simp; done) | (simp; omega) | (simp at *; done) | (simp at *; omega)) ?_ | refine sg true rfl rfl rfl (by rw [hn]; rfl) (by intro hG; first | trivial | (simp; done) | (simp; omega) | (simp at *; done) | (simp at *; omega)) ?_)
          refine s_storeI rfl rfl rfl rfl rfl (by first | trivial | (simp; done) | (simp; omega) | (simp at *; done) | (simp at *; omega)) rfl (by rw [cellsOf5]) (by first | (simp; done) | (simp; omega) | (simp at *; omega)) ?_
          repeat (first | refine W_seq ?_ | refine W_region ?_ | refine W_block ?_ | refine W_skip ?_ | refine W_ret ?_ | refine W_exit ?_ | refine WL_nil ?_ | refine N_then ?_ | refine N_then_exit ?_ | refine N_then_ret ?_ | refine N_block ?_ | refine N_block_ret ?_ | refine N_block_exit ?_ | refine N_block_pass rfl ?_ | refine sp true rfl rfl (by rw [hn]; rfl) (by first | trivial | (simp; done) | (simp; omega) | (simp at *; done) | (simp at *; omega)) ?_ | refine sg true rfl rfl rfl (by rw [hn]; rfl) (by intro hG; first | trivial | (simp; done) | (simp; omega) | (simp at *; done) | (simp at *; omega)) ?_)
          refine N_round ⟨i, by omega⟩ (by dsimp only; omega) (St.le_of ⟨⟨rfl, rfl, rfl, ?_, ?_⟩, ⟨rfl, ?_⟩⟩)
          · show lv (.int .i64 ((255 - P[i] + c) / 256)) = lv (.int .i64 (incC (notL (P.drop i))).2)
            rw [hd]
          · show lv (.int .i64 ((i : Int) - 1)) = lv (.int .i64 ((i : Int) - 1))
            rfl
          · show Blk.row (.ints .u8 (List.set _ (0 + (i : Int).toNat) ((255 - P[i] + c) % 256))) = Blk.row (.ints .u8 (P.take i ++ (incC (notL (P.drop i))).1))
            rw [hd, set_mid _ _ _ _ _ (by rw [hlt]; simp)]
        · have : j = 0 := by simp at hq; omega
          subst this
          have e4 : P.take 0 ++ (incC (notL (P.drop 0))).1 = tcL P := by simp [tcL]
          rw [e4]
          have htl : (tcL P).length = m := by simp [tcL, len_incC, notL, hpl]
          have hne : s ≠ [] := hbs rfl
          repeat (first | refine W_seq ?_ | refine W_region ?_ | refine W_block ?_ | refine W_skip ?_ | refine W_ret ?_ | refine W_exit ?_ | refine WL_nil ?_ | refine N_then ?_ | refine N_then_exit ?_ | refine N_then_ret ?_ | refine N_block ?_ | refine N_block_ret ?_ | refine N_block_exit ?_ | refine N_block_pass rfl ?_ | refine sp true rfl rfl (by rw [hn]; rfl) (by first | trivial | (simp; done) | (simp; omega) | (simp at *; done) | (simp at *; omega)) ?_ | refine sg true rfl rfl rfl (by rw [hn]; rfl) (by intro hG; first | trivial | (simp; done) | (simp; omega) | (simp at *; done) | (simp at *; omega)) ?_)
          refine W_cond rfl (by simp) (fun h6 => ?_) (fun h6 => ?_)
          · have h7 : 128 ≤ hd0 (tcL P) := by simpa [hd0] using h6
            have e : tcL P = refcL true s := by
              rcases Nat.lt_or_ge s.length m with h | h
              · have hm : m = s.length + 1 := by omega
                have hp : P = 0 :: s := by rw [← hP, hm, padL]; simp
                simp [refcL, hbad hm hne, hp]
              · have hm : m = s.length := by omega
                have hp : P = s := by rw [← hP, hm, padL]; simp
                rw [hp] at h7 ⊢
                simp [refcL, hne, goodB, h7]
            have el : m = (refcL true s).length := by rw [← e, htl]
            repeat (first | refine W_seq ?_ | refine W_region ?_ | refine W_block ?_ | refine W_skip ?_ | refine W_ret ?_ | refine W_exit ?_ | refine WL_nil ?_ | refine N_then ?_ | refine N_then_exit ?_ | refine N_then_ret ?_ | refine N_block ?_ | refine N_block_ret ?_ | refine N_block_exit ?_ | refine N_block_pass rfl ?_ | refine sp true rfl rfl (by rw [hn]; rfl) (by first | trivial | (simp; done) | (simp; omega) | (simp at *; done) | (simp at *; omega)) ?_ | refine sg true rfl rfl rfl (by rw [hn]; rfl) (by intro hG; first | trivial | (simp; done) | (simp; omega) | (simp at *; done) | (simp at *; omega)) ?_)
            refine N_retN [83] rfl (by first | trivial | (simp; done) | (simp; omega) | (simp at *; done) | (simp at *; omega)) ⟨?_, by first | trivial | exact ⟨rfl, rfl⟩, ?_, rfl⟩ hb rfl (by first | trivial | (simp; done) | (simp [ordL]; done))
            · rw [← el]; rfl
            · exact congrArg (fun l => Blk.row (.ints .u8 l)) e
          · have h7 : ¬ 128 ≤ hd0 (tcL P) := by simpa [hd0] using h6
            have hm : m = s.length := by
              rcases Nat.lt_or_ge s.length m with h | h
              · have hp : P = 0 :: s := by rw [← hP, show m = s.length + 1 by omega, padL]; simp
                exfalso
                match s, hs, hne, hp with
                | x :: t, hs, _, hp =>
                  have hx : x ≠ 0 := by
                    have := List.head?_dropWhile_not (p := fun y : Int => y == 0) (l := l)
                    intro h0
                    rw [trimL] at hs
                    rw [hs] at this
                    simp [h0] at this
                  exact h7 (by rw [hp]; exact good_zero x t hx (by rw [← hs]; exact wf_trim hw))
              · omega
            have hp : P = s := by rw [← hP, hm, padL]; simp
            rw [hp] at h7
            repeat (first | refine W_seq ?_ | refine W_region ?_ | refine W_block ?_ | refine W_skip ?_ | refine W_ret ?_ | refine W_exit ?_ | refine WL_nil ?_ | refine N_then ?_ | refine N_then_exit ?_ | refine N_then_ret ?_ | refine N_block ?_ | refine N_block_ret ?_ | refine N_block_exit ?_ | refine N_block_pass rfl ?_ | refine sp true rfl rfl (by rw [hn]; rfl) (by first | trivial | (simp; done) | (simp; omega) | (simp at *; done) | (simp at *; omega)) ?_ | refine sg true rfl rfl rfl (by rw [hn]; rfl) (by intro hG; first | trivial | (simp; done) | (simp; omega) | (simp at *; done) | (simp at *; omega)) ?_)
            (refine N_round ?i1 ?i2 ?i3; (case i1 => exact ⟨m + 1, by omega, by omega, fun _ _ => by simpa [goodB] using h7⟩); (case i2 => (dsimp only; omega)); (case i3 => refine St.le_of ⟨?_, ?_⟩ <;> (repeat' (first | exact trivial | exact rfl | refine ⟨?_, ?_⟩)) <;> first | exact rfl | (simp; done) | skip))
theorem refcont_ok (b : Bool) (l : List Int) (hl : l.length ≤ 10000) (hw : WfB l) : Ct Try.prog 19 [numA b l] [] (B8 (refcL (madeB b l) (trimL l))) [] [] :=
  (refcont_own b l hl hw).freeze ⟨rfl, rfl, rfl, by simp, by simp⟩ rfl
end Go.Proofs.Ytppmfjopokkhmaa

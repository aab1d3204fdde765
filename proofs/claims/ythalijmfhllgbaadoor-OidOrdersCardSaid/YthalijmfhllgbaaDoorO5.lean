/-
  Chapter 04: rows of numbers compared. The conditions: rows of at most a million numbers.
-/
import Derived.Test.YthalijmfhllgbaaDoorO4
import Derived.Test.YthalijmfhllgbaaDoorW7
namespace Go.Proofs.YthalijmfhllgbaaDoor
set_option linter.unusedSimpArgs false
set_option linter.unusedVariables false
open Go.Sx

set_option maxRecDepth 10000

set_option maxHeartbeats 4000000 in
theorem refCmp_ok (a b : List Int) (ha : a.length ≤ 1000000) (hb' : b.length ≤ 1000000) : Ct Tryd.prog 10 [I64 a, I64 b] [] (lv (.int .i64 (cmpL a b))) [] [] := by
  refine Ct_intro Tryd.func10 rfl rfl rfl rfl rfl (fun E hn hb => ?_)
  repeat (first | refine stp ?_ | refine N_block_pass rfl ?_ | refine sp1 ?_ | refine sg1 ?_ | refine WL_nil ?_)
  refine W_weaken (St.le_of (l := [(0, I64 a), (1, I64 b), (5, lv (.int .i64 0))]) (h := []) (by refine ⟨?_, ?_⟩ <;> (repeat' (first | exact trivial | exact rfl | refine ⟨?_, ?_⟩)) <;> first | exact rfl | (simp; done) | skip)) ?_
  refine W_loop (ι := {i : Nat // i ≤ 1000000 ∧ cmpL (a.drop i) (b.drop i) = cmpL a b}) (fun i => St.of [(0, I64 a), (1, I64 b), (5, lv (.int .i64 (i.1 : Int)))] []) (fun i => 1000001 - i.1) (fun i => ?_) ⟨0, by omega, rfl⟩
  obtain ⟨i, hi, he⟩ := i
  dsimp only
  repeat (first | refine stp ?_ | refine N_block_pass rfl ?_ | refine sp1 ?_ | refine sg1 ?_ | refine WL_nil ?_)
  refine W_cond rfl (by simp) (fun hc => ?_) (fun hc => ?_)
  · simp at hc
    repeat (first | refine stp ?_ | refine N_block_pass rfl ?_ | refine sp1 ?_ | refine sg1 ?_ | refine WL_nil ?_)
    refine W_drawW 21 (by kernel_rfl) (by kernel_rfl) (by kernel_rfl) (by rw [hn]; rfl) rfl rfl ?_
    repeat (first | refine dp1 ?_ | refine dg1 ?_ | refine DrawW_nil ?_)
    repeat (first | refine stp ?_ | refine N_block_pass rfl ?_ | refine sp1 ?_ | refine sg1 ?_ | refine WL_nil ?_)
    have key : ∀ x : List Int, i < x.length → x.drop i = x.getD i 0 :: x.drop (i + 1) := fun x h => by
      rw [List.drop_eq_getElem_cons h]; simp [h]
    refine W_cond rfl (by simp) (fun hd => ?_) (fun hd => ?_)
    · repeat (first | refine stp ?_ | refine N_block_pass rfl ?_ | refine sp1 ?_ | refine sg1 ?_ | refine WL_nil ?_)
      refine rt2 [] ?_ ?_
      · have : cmpL a b = -1 := by
          rw [← he]
          by_cases h1 : i < a.length
          · have h2 : i < b.length ∧ a.getD i 0 < b.getD i 0 := by
              have : ¬ a.length ≤ i := by omega
              simpa [this, Bool.cond_eq_ite] using hd
            rw [key a h1, key b h2.1]
            simp only [cmpL, h2.2, if_true]
          · rw [List.drop_eq_nil_of_le (by omega), key b (by omega)]; rfl
        rw [this]; rfl
      · trivial
    · repeat (first | refine stp ?_ | refine N_block_pass rfl ?_ | refine sp1 ?_ | refine sg1 ?_ | refine WL_nil ?_)
      have hia : i < a.length ∧ (i < b.length → ¬ a.getD i 0 < b.getD i 0) := by
        rcases Nat.lt_or_ge i a.length with h | h
        · have : ¬ a.length ≤ i := by omega
          refine ⟨h, fun hib => ?_⟩
          simpa [this, hib, Bool.cond_eq_ite] using hd
        · simp [h, Bool.cond_eq_ite] at hd
      clear hd
      refine W_drawW 15 (by kernel_rfl) (by kernel_rfl) (by kernel_rfl) (by rw [hn]; rfl) rfl rfl ?_
      repeat (first | refine dp1 ?_ | refine dg1 ?_ | refine DrawW_nil ?_)
      repeat (first | refine stp ?_ | refine N_block_pass rfl ?_ | refine sp1 ?_ | refine sg1 ?_ | refine WL_nil ?_)
      refine W_cond rfl (by simp) (fun hd => ?_) (fun hd => ?_)
      · repeat (first | refine stp ?_ | refine N_block_pass rfl ?_ | refine sp1 ?_ | refine sg1 ?_ | refine WL_nil ?_)
        refine rt2 [] ?_ ?_
        · have : cmpL a b = 1 := by
            rw [← he, key a hia.1]
            by_cases h1 : i < b.length
            · have h2 : b.getD i 0 < a.getD i 0 := by
                have : ¬ b.length ≤ i := by omega
                simpa [this, Bool.cond_eq_ite] using hd
              rw [key b h1]
              simp only [cmpL, hia.2 h1, h2, if_true, if_false]
            · rw [List.drop_eq_nil_of_le (by omega : b.length ≤ i)]; rfl
          rw [this]; rfl
        · trivial
      · repeat (first | refine stp ?_ | refine N_block_pass rfl ?_ | refine sp1 ?_ | refine sg1 ?_ | refine WL_nil ?_)
        have h1 : i < b.length ∧ ¬ b.getD i 0 < a.getD i 0 := by
          rcases Nat.lt_or_ge i b.length with h | h
          · have : ¬ b.length ≤ i := by omega
            refine ⟨h, ?_⟩
            simpa [this, Bool.cond_eq_ite] using hd
          · simp [h, Bool.cond_eq_ite] at hd
        (refine N_round ?i1 ?i2 ?i3; (case i1 => exact ⟨i + 1, by omega, by rw [← he, key a hia.1, key b h1.1]; simp only [cmpL, hia.2 h1.1, h1.2, if_false]⟩); (case i2 => (dsimp only; omega)); (case i3 => refine St.le_of ⟨?_, ?_⟩ <;> (repeat' (first | exact trivial | exact rfl | refine ⟨?_, ?_⟩)) <;> first | exact rfl | (simp; done) | skip))
  · repeat (first | refine stp ?_ | refine N_block_pass rfl ?_ | refine sp1 ?_ | refine sg1 ?_ | refine WL_nil ?_)
    refine rt2 [] ?_ ?_
    · have : cmpL a b = 0 := by
        rw [← he, List.drop_eq_nil_of_le (by simp at hc; omega), List.drop_eq_nil_of_le (by simp at hc; omega)]; rfl
      rw [this]; rfl
    · trivial

theorem isNaN_ok (x : Int) : Ct Tryd.prog 72 [lv (.int .i64 x)] [] (lv (.bool false)) [] [] := by
  refine Ct_intro Tryd.func72 rfl rfl rfl rfl rfl (fun E hn hb => ?_)
  repeat (first | refine stp ?_ | refine N_block_pass rfl ?_ | refine sp1 ?_ | refine sg1 ?_ | refine WL_nil ?_)
  refine rt2 [] ?_ ?_
  · simp [Av.ren]
    rfl
  · trivial
def cmpN (x y : Int) : Int := if x < y then -1 else if y < x then 1 else 0
theorem cmp_ok (x y : Int) : Ct Tryd.prog 56 [lv (.int .i64 x), lv (.int .i64 y)] [] (lv (.int .i64 (cmpN x y))) [] [] := by
  refine Ct_intro Tryd.func56 rfl rfl rfl rfl rfl (fun E hn hb => ?_)
  repeat (first | refine stp ?_ | refine N_block_pass rfl ?_ | refine sp1 ?_ | refine sg1 ?_ | refine WL_nil ?_)
  refine s_call0 (isNaN_ok x) rfl rfl rfl (by rw [hn]; rfl) rfl rfl (by first | trivial | (simp; done) | (simp; omega) | (simp at *; done) | (simp at *; omega)) rfl rfl rfl ?_
  repeat (first | refine stp ?_ | refine N_block_pass rfl ?_ | refine sp1 ?_ | refine sg1 ?_ | refine WL_nil ?_)
  refine s_call0 (isNaN_ok y) rfl rfl rfl (by rw [hn]; rfl) rfl rfl (by first | trivial | (simp; done) | (simp; omega) | (simp at *; done) | (simp at *; omega)) rfl rfl rfl ?_
  repeat (first | refine stp ?_ | refine N_block_pass rfl ?_ | refine sp1 ?_ | refine sg1 ?_ | refine WL_nil ?_)
  refine W_cond rfl (by simp) (fun hc => ?_) (fun hc => ?_)
  · simp at hc
  repeat (first | refine stp ?_ | refine N_block_pass rfl ?_ | refine sp1 ?_ | refine sg1 ?_ | refine WL_nil ?_)
  refine W_cond rfl (by simp) (fun hc => ?_) (fun hc => ?_)
  · simp at hc
  repeat (first | refine stp ?_ | refine N_block_pass rfl ?_ | refine sp1 ?_ | refine sg1 ?_ | refine WL_nil ?_)
  refine W_cond rfl (by simp) (fun h1 => ?_) (fun h1 => ?_)
  · have : cmpN x y = -1 := if_pos (by simpa using h1)
    rw [this]
    repeat (first | refine stp ?_ | refine N_block_pass rfl ?_ | refine sp1 ?_ | refine sg1 ?_ | refine WL_nil ?_)
    exact rt1 []
  repeat (first | refine stp ?_ | refine N_block_pass rfl ?_ | refine sp1 ?_ | refine sg1 ?_ | refine WL_nil ?_)
  refine W_cond rfl (by simp) (fun h2 => ?_) (fun h2 => ?_)
  · have : cmpN x y = 1 := by rw [cmpN, if_neg (by simpa using h1), if_pos (by simpa using h2)]
    rw [this]
    repeat (first | refine stp ?_ | refine N_block_pass rfl ?_ | refine sp1 ?_ | refine sg1 ?_ | refine WL_nil ?_)
    exact rt1 []
  · have : cmpN x y = 0 := by rw [cmpN, if_neg (by simpa using h1), if_neg (by simpa using h2)]
    rw [this]
    repeat (first | refine stp ?_ | refine N_block_pass rfl ?_ | refine sp1 ?_ | refine sg1 ?_ | refine WL_nil ?_)
    exact rt1 []
theorem few04_ok (l : List Int) (hl : l.length ≤ 9223372036854775807) : Ct Tryd.prog 7 [I64 l] [] (I64 (l.take 50)) [] [] := by
  refine Ct_intro Tryd.func7 rfl rfl rfl rfl rfl (fun E hn hb => ?_)
  repeat (first | refine stp ?_ | refine N_block_pass rfl ?_ | refine sp1 ?_ | refine sg1 ?_ | refine WL_nil ?_)
  have e : (min (l.length : Int) 50).toNat = min 50 l.length := by omega
  refine rt2 [] ?_ ?_
  · show _ = I64 (l.take 50)
    simp
    rw [e]
    omega
  · trivial
theorem sCmp_ok (a b : List Int) (ha : a.length ≤ 1000000) (hb' : b.length ≤ 1000000) : Ct Tryd.prog 29 [I64 a, I64 b] [] (lv (.int .i64 (cmpL a b))) [] [] := by
  have key : ∀ (x : List Int) (i : Nat), i < x.length → x.drop i = x.getD i 0 :: x.drop (i + 1) := fun x i h => by
    rw [List.drop_eq_getElem_cons h]; simp [h]
  refine Ct_intro Tryd.func29 rfl rfl rfl rfl rfl (fun E hn hb => ?_)
  repeat (first | refine stp ?_ | refine N_block_pass rfl ?_ | refine sp1 ?_ | refine sg1 ?_ | refine WL_nil ?_)
  refine W_weaken (St.le_of (l := [(0, I64 a), (1, I64 b), (9, I64 a), (10, lv (.int .i64 (a.length : Int))), (11, lv (.int .i64 ((0 : Nat) : Int)))]) (h := []) (by refine ⟨?_, ?_⟩ <;> (repeat' (first | exact trivial | exact rfl | refine ⟨?_, ?_⟩)) <;> first | exact rfl | (simp; done) | skip)) ?_
  refine W_loop (ι := {i : Nat // i ≤ a.length ∧ cmpL (a.drop i) (b.drop i) = cmpL a b}) (fun i => St.of [(0, I64 a), (1, I64 b), (9, I64 a), (10, lv (.int .i64 (a.length : Int))), (11, lv (.int .i64 (i.1 : Int)))] []) (fun i => a.length - i.1) (fun i => ?_) ⟨0, by omega, rfl⟩
  obtain ⟨i, hi, he⟩ := i
  dsimp only
  repeat (first | refine stp ?_ | refine N_block_pass rfl ?_ | refine sp1 ?_ | refine sg1 ?_ | refine WL_nil ?_)
  refine W_cond rfl (by simp) (fun hc => ?_) (fun hc => ?_)
  · have hi2 : i < a.length := by simpa using hc
    rw [key a i hi2] at he
    repeat (first | refine stp ?_ | refine N_block_pass rfl ?_ | refine sp1 ?_ | refine sg1 ?_ | refine WL_nil ?_)
    refine W_cond rfl (by simp) (fun h1 => ?_) (fun h1 => ?_)
    · have : cmpL a b = 1 := by
        rw [← he, List.drop_eq_nil_of_le (by simpa using h1 : b.length ≤ i)]; rfl
      rw [this]
      repeat (first | refine stp ?_ | refine N_block_pass rfl ?_ | refine sp1 ?_ | refine sg1 ?_ | refine WL_nil ?_)
      exact rt1 []
    · have h1' : i < b.length := by simpa using h1
      rw [key b i h1'] at he
      repeat (first | refine stp ?_ | refine N_block_pass rfl ?_ | refine sp1 ?_ | refine sg1 ?_ | refine WL_nil ?_)
      generalize hx : a.getD (Int.toNat (i : Int)) 0 = x
      generalize hy : b.getD (Int.toNat (i : Int)) 0 = y
      have hx' : a.getD i 0 = x := hx
      have hy' : b.getD i 0 = y := hy
      rw [hx', hy'] at he
      refine s_call0 (cmp_ok x y) rfl rfl rfl (by rw [hn]; rfl) rfl rfl (by first | trivial | (simp; done) | (simp; omega) | (simp at *; done) | (simp at *; omega)) rfl rfl rfl ?_
      repeat (first | refine stp ?_ | refine N_block_pass rfl ?_ | refine sp1 ?_ | refine sg1 ?_ | refine WL_nil ?_)
      refine W_cond rfl (by simp) (fun h2 => ?_) (fun h2 => ?_)
      · have : cmpL a b = cmpN x y := by
          rw [← he]
          simp [cmpN] at h2
          simp only [cmpL, cmpN]
          split <;> simp_all
        rw [this]
        repeat (first | refine stp ?_ | refine N_block_pass rfl ?_ | refine sp1 ?_ | refine sg1 ?_ | refine WL_nil ?_)
        exact rt1 []
      · repeat (first | refine stp ?_ | refine N_block_pass rfl ?_ | refine sp1 ?_ | refine sg1 ?_ | refine WL_nil ?_)
        have : ¬ x < y ∧ ¬ y < x := by
          simp only [cmpN] at h2
          constructor
          · intro h; rw [if_pos h] at h2; simp at h2
          · intro h; rw [if_neg (by omega), if_pos h] at h2; simp at h2
        (refine N_round ?i1 ?i2 ?i3; (case i1 => exact ⟨i + 1, by omega, by rw [← he]; simp only [cmpL, this.1, this.2, if_false]⟩); (case i2 => (dsimp only; omega)); (case i3 => refine St.le_of ⟨?_, ?_⟩ <;> (repeat' (first | exact trivial | exact rfl | refine ⟨?_, ?_⟩)) <;> first | exact rfl | (simp; done) | skip))
  · have : i = a.length := by simp at hc; omega
    subst this
    rw [List.drop_length] at he
    repeat (first | refine stp ?_ | refine N_block_pass rfl ?_ | refine sp1 ?_ | refine sg1 ?_ | refine WL_nil ?_)
    refine W_cond rfl (by simp) (fun h1 => ?_) (fun h1 => ?_)
    · have : cmpL a b = -1 := by
        rw [← he, key b a.length (by simpa using h1)]; rfl
      rw [this]
      repeat (first | refine stp ?_ | refine N_block_pass rfl ?_ | refine sp1 ?_ | refine sg1 ?_ | refine WL_nil ?_)
      exact rt1 []
    · have : cmpL a b = 0 := by
        rw [← he, List.drop_eq_nil_of_le (by simpa using h1)]; rfl
      rw [this]
      repeat (first | refine stp ?_ | refine N_block_pass rfl ?_ | refine sp1 ?_ | refine sg1 ?_ | refine WL_nil ?_)
      exact rt1 []
theorem oCmp_ok (a b : List Int) (ha : a.length ≤ 1000000) (hb' : b.length ≤ 1000000) : Ct Tryd.prog 9 [I64 a, I64 b] [] (lv (.int .i64 (cmpL a b))) [] [] := by
  refine Ct_intro Tryd.func9 rfl rfl rfl rfl rfl (fun E hn hb => ?_)
  repeat (first | refine stp ?_ | refine N_block_pass rfl ?_ | refine sp1 ?_ | refine sg1 ?_ | refine WL_nil ?_)
  refine s_call0 (sCmp_ok a b ha hb') rfl rfl rfl (by rw [hn]; rfl) rfl rfl (by first | trivial | (simp; done) | (simp; omega) | (simp at *; done) | (simp at *; omega)) rfl rfl rfl ?_
  repeat (first | refine stp ?_ | refine N_block_pass rfl ?_ | refine sp1 ?_ | refine sg1 ?_ | refine WL_nil ?_)
  exact rt1 []
def eqL (a b : List Int) : Bool := decide (a = b)
theorem eq_ok (a b : List Int) (ha : a.length ≤ 1000000) (hb' : b.length ≤ 1000000) : Ct Tryd.prog 30 [I64 a, I64 b] [] (lv (.bool (eqL a b))) [] [] := by
  have key : ∀ (x : List Int) (i : Nat), i < x.length → x.drop i = x.getD i 0 :: x.drop (i + 1) := fun x i h => by
    rw [List.drop_eq_getElem_cons h]; simp [h]
  refine Ct_intro Tryd.func30 rfl rfl rfl rfl rfl (fun E hn hb => ?_)
  repeat (first | refine stp ?_ | refine N_block_pass rfl ?_ | refine sp1 ?_ | refine sg1 ?_ | refine WL_nil ?_)
  refine W_cond rfl (by simp) (fun hc => ?_) (fun hc => ?_)
  · have : eqL a b = false := by
      simp only [eqL, decide_eq_false_iff_not]
      rintro rfl
      simp at hc
    rw [this]
    repeat (first | refine stp ?_ | refine N_block_pass rfl ?_ | refine sp1 ?_ | refine sg1 ?_ | refine WL_nil ?_)
    exact rt1 []
  · have hlen : a.length = b.length := by simp at hc; omega
    repeat (first | refine stp ?_ | refine N_block_pass rfl ?_ | refine sp1 ?_ | refine sg1 ?_ | refine WL_nil ?_)
    refine W_weaken (St.le_of (l := [(0, I64 a), (1, I64 b), (12, lv (.int .i64 (a.length : Int))), (13, lv (.int .i64 ((0 : Nat) : Int)))]) (h := []) (by refine ⟨?_, ?_⟩ <;> (repeat' (first | exact trivial | exact rfl | refine ⟨?_, ?_⟩)) <;> first | exact rfl | (simp; done) | skip)) ?_
    refine W_loop (ι := {i : Nat // i ≤ a.length ∧ (a.drop i = b.drop i ↔ a = b)}) (fun i => St.of [(0, I64 a), (1, I64 b), (12, lv (.int .i64 (a.length : Int))), (13, lv (.int .i64 (i.1 : Int)))] []) (fun i => a.length - i.1) (fun i => ?_) ⟨0, by omega, by simp⟩
    obtain ⟨i, hi, he⟩ := i
    dsimp only
    repeat (first | refine stp ?_ | refine N_block_pass rfl ?_ | refine sp1 ?_ | refine sg1 ?_ | refine WL_nil ?_)
    refine W_cond rfl (by simp) (fun hc => ?_) (fun hc => ?_)
    · have hi2 : i < a.length := by simpa using hc
      have hi3 : i < b.length := by omega
      rw [key a i hi2, key b i hi3, List.cons.injEq] at he
      repeat (first | refine stp ?_ | refine N_block_pass rfl ?_ | refine sp1 ?_ | refine sg1 ?_ | refine WL_nil ?_)
      refine W_drawW 9 (by kernel_rfl) (by kernel_rfl) (by kernel_rfl) (by rw [hn]; rfl) rfl rfl ?_
      repeat (first | refine dp1 ?_ | refine dg1 ?_ | refine DrawW_nil ?_)
      repeat (first | refine stp ?_ | refine N_block_pass rfl ?_ | refine sp1 ?_ | refine sg1 ?_ | refine WL_nil ?_)
      refine W_cond rfl (by simp) (fun h1 => ?_) (fun h1 => ?_)
      · have : eqL a b = false := by
          simp only [eqL, decide_eq_false_iff_not]
          rw [← he]
          intro h
          have h0 := h.1
          rw [bne_iff_ne] at h1
          exact h1 h0
        rw [this]
        repeat (first | refine stp ?_ | refine N_block_pass rfl ?_ | refine sp1 ?_ | refine sg1 ?_ | refine WL_nil ?_)
        exact rt1 []
      · have h0 : a.getD i 0 = b.getD i 0 := by
          have h2 : (a.getD i 0 != b.getD i 0) = false := h1
          simpa using h2
        repeat (first | refine stp ?_ | refine N_block_pass rfl ?_ | refine sp1 ?_ | refine sg1 ?_ | refine WL_nil ?_)
        (refine N_round ?i1 ?i2 ?i3; (case i1 => exact ⟨i + 1, by omega, by rw [← he]; exact ⟨fun h => ⟨h0, h⟩, fun h => h.2⟩⟩); (case i2 => (dsimp only; omega)); (case i3 => refine St.le_of ⟨?_, ?_⟩ <;> (repeat' (first | exact trivial | exact rfl | refine ⟨?_, ?_⟩)) <;> first | exact rfl | (simp; done) | skip))
    · have : i = a.length := by simp at hc; omega
      subst this
      rw [List.drop_length, List.drop_eq_nil_of_le (by omega)] at he
      have : eqL a b = true := by simp only [eqL, decide_eq_true_eq]; exact he.1 rfl
      rw [this]
      repeat (first | refine stp ?_ | refine N_block_pass rfl ?_ | refine sp1 ?_ | refine sg1 ?_ | refine WL_nil ?_)
      exact rt1 []
def underL (a b : List Int) : Bool := decide (b.length ≤ a.length) && eqL (a.take b.length) b
theorem under_ok (a b : List Int) (ha : a.length ≤ 1000000) (hb' : b.length ≤ 1000000) : Ct Tryd.prog 11 [I64 a, I64 b] [] (lv (.bool (underL a b))) [] [] := by
  refine Ct_intro Tryd.func11 rfl rfl rfl rfl rfl (fun E hn hb => ?_)
  repeat (first | refine stp ?_ | refine N_block_pass rfl ?_ | refine sp1 ?_ | refine sg1 ?_ | refine WL_nil ?_)
  refine WL_q (opq_callG rfl rfl rfl rfl rfl (fun _ => (eq_ok (a.take b.length) b (by simp; omega) hb')) (fun hG => by first | exact hG | (first | trivial | (simp; done) | (simp; omega) | (simp at *; done) | (simp at *; omega))) rfl rfl) (by rw [hn]; rfl) ?_
  repeat (first | refine stp ?_ | refine N_block_pass rfl ?_ | refine sp1 ?_ | refine sg1 ?_ | refine WL_nil ?_)
  refine rt2 [] ?_ ?_
  · have e : decide ((b.length : Int) ≤ (a.length : Int)) = decide (b.length ≤ a.length) := by simp
    have e2 : (bif decide ((b.length : Int) ≤ (a.length : Int)) then eqL (a.take b.length) b else false) = underL a b := by
      rw [e, underL]; cases decide (b.length ≤ a.length) <;> rfl
    exact congrArg (fun x => lv (.bool x)) e2
  · trivial
end Go.Proofs.YthalijmfhllgbaaDoor

/-
  The layer: a nil slice in a typed cell as a row of the call's own. No condition.
-/
import Derived.Test.YthalijmfhllgbaaD8
import Derived.Test.YthalijmfhllgbaaSxT
namespace Go.Proofs.Ythalijmfhllgbaa
set_option linter.unusedSimpArgs false
set_option linter.unusedVariables false
open Go.Sx Dt

set_option maxRecDepth 10000

/-- Two digits, and their number; what is read: the number, the bytes that are left, are they no time? -/
def good2 (r : List Int) : Bool := decide (2 ≤ r.length) && isDig (r.getD 0 0) && isDig (r.getD 1 0)
def val2 (r : List Int) : Int := 10 * (r.getD 0 0 - 48) + (r.getD 1 0 - 48)
def rd2 (r : List Int) (b : Bool) : Int × List Int × Bool := if good2 r then (val2 r, r.drop 2, b) else (0, r, true)
abbrev rdB (r : List Int) (b : Bool) (k : Int) : Blk := .cells [.lf (.ints .u8 r), .lf (.v (.bool b)), .lf (.v (.int .i64 k))]
theorem val2_rng {r : List Int} (h : good2 r = true) : 0 ≤ val2 r ∧ val2 r ≤ 99 := by
  simp [good2, isDig] at h
  unfold val2
  simp
  omega
theorem rd2_rng (r : List Int) (b : Bool) : 0 ≤ (rd2 r b).1 ∧ (rd2 r b).1 ≤ 99 := by
  unfold rd2
  split
  · rename_i h; exact val2_rng h
  · simp
theorem rd2_len (r : List Int) (b : Bool) : (rd2 r b).2.1.length ≤ r.length := by
  unfold rd2
  split <;> simp
theorem two10_ok (r : List Int) (b : Bool) (k : Int) (hl : r.length ≤ 1000000) : Ct Try.prog 75 [.c (.ptr 0 0)] [rdB r b k] (lv (.int .i64 (rd2 r b).1)) [rdB (rd2 r b).2.1 (rd2 r b).2.2 k] [] := by
  by_cases h2 : r.length < 2
  · have e : rd2 r b = (0, r, true) := by
      have : good2 r = false := by simp [good2]; omega
      rw [rd2, this]; rfl
    rw [e]
    refine Ct_intro Try.func75 rfl rfl rfl rfl rfl (fun E hn hb => ?_)
    repeat (first | refine stp ?_ | refine N_block_pass rfl ?_ | refine sp1 ?_ | refine sg1 ?_ | refine WL_nil ?_)
    refine W_cond rfl (by simp) (fun hc => ?_) (fun hc => ?_)
    · repeat (first | refine stp ?_ | refine N_block_pass rfl ?_ | refine sp1 ?_ | refine sg1 ?_ | refine WL_nil ?_)
      refine s_storeN rfl rfl rfl rfl rfl (by first | trivial | (simp; done) | (simp; omega) | (simp at *; done) | (simp at *; omega)) rfl rfl rfl (by rw [cellsOf4]; rfl) (by rw [info4]; rfl) rfl rfl ?_
      repeat (first | refine stp ?_ | refine N_block_pass rfl ?_ | refine sp1 ?_ | refine sg1 ?_ | refine WL_nil ?_)
      exact rt1 []
    · simp at hc; omega
  · by_cases h3 : isDig (r.getD 0 0) = true ∧ isDig (r.getD 1 0) = true
    · have hg : good2 r = true := by simp only [good2, h3, Bool.and_true]; simp; omega
      have e : rd2 r b = (val2 r, r.drop 2, b) := by rw [rd2, hg]; rfl
      have hr := val2_rng hg
      rw [e]
      unfold val2 at hr ⊢
      simp only [isDig, Bool.and_eq_true, decide_eq_true_eq] at h3
      generalize hx : r.getD 0 0 = x at *
      generalize hy : r.getD 1 0 = y at *
      refine Ct_intro Try.func75 rfl rfl rfl rfl rfl (fun E hn hb => ?_)
      repeat (first | refine stp ?_ | refine N_block_pass rfl ?_ | refine sp1 ?_ | refine sg1 ?_ | refine WL_nil ?_)
      refine W_cond rfl (by simp) (fun hc => ?_) (fun hc => ?_)
      · simp at hc; omega
      repeat (first | refine stp ?_ | refine N_block_pass rfl ?_ | refine sp1 ?_ | refine sg1 ?_ | refine WL_nil ?_)
      refine W_drawX [] (by kernel_rfl) (by kernel_rfl) (by rw [hn]; rfl) ?_
      repeat (first | refine DrawX_op rfl rfl rfl (ops_pure true rfl rfl (by first | trivial | (simp; done) | (simp; omega) | (simp at *; done) | (simp at *; omega))) ?_ | refine DrawX_op rfl rfl rfl (ops_pureG true rfl rfl rfl (by intro hG; first | trivial | (simp; done) | (simp; omega) | (simp at *; done) | (simp at *; omega))) ?_ | refine DrawX_fr rfl rfl rfl (fun _ => ops_pure true rfl rfl (by first | trivial | (simp; done) | (simp; omega) | (simp at *; done) | (simp at *; omega))) ?_ | refine DrawX_nil ?_)
      repeat (first | refine stp ?_ | refine N_block_pass rfl ?_ | refine sp1 ?_ | refine sg1 ?_ | refine WL_nil ?_)
      rw [show r.getD (Int.toNat 0) 0 = x from hx, show r.getD (Int.toNat 1) 0 = y from hy]
      refine W_cond rfl (by simp) (fun hc => ?_) (fun hc => ?_)
      · exfalso
        simp [Bool.cond_eq_ite] at hc
        omega
      repeat (first | refine stp ?_ | refine N_block_pass rfl ?_ | refine sp1 ?_ | refine sg1 ?_ | refine WL_nil ?_)
      refine s_storeN rfl rfl rfl rfl rfl (by first | trivial | (simp; done) | (simp; omega) | (simp at *; done) | (simp at *; omega)) rfl rfl rfl (by rw [cellsOf24]; rfl) (by rw [info24]; rfl) rfl rfl ?_
      repeat (first | refine stp ?_ | refine N_block_pass rfl ?_ | refine sp1 ?_ | refine sg1 ?_ | refine WL_nil ?_)
      refine rt2 [] ?_ ?_
      · rfl
      · trivial
    · have hg : good2 r = false := by
        rw [good2, Bool.and_assoc, Bool.and_eq_false_iff]
        right
        rw [Bool.eq_false_iff]
        intro h
        exact h3 (by simpa using h)
      have e : rd2 r b = (0, r, true) := by rw [rd2, hg]; rfl
      rw [e]
      simp only [isDig, Bool.and_eq_true, decide_eq_true_eq] at h3
      generalize hx : r.getD 0 0 = x at *
      generalize hy : r.getD 1 0 = y at *
      refine Ct_intro Try.func75 rfl rfl rfl rfl rfl (fun E hn hb => ?_)
      repeat (first | refine stp ?_ | refine N_block_pass rfl ?_ | refine sp1 ?_ | refine sg1 ?_ | refine WL_nil ?_)
      refine W_cond rfl (by simp) (fun hc => ?_) (fun hc => ?_)
      · simp at hc; omega
      repeat (first | refine stp ?_ | refine N_block_pass rfl ?_ | refine sp1 ?_ | refine sg1 ?_ | refine WL_nil ?_)
      refine W_drawX [] (by kernel_rfl) (by kernel_rfl) (by rw [hn]; rfl) ?_
      repeat (first | refine DrawX_op rfl rfl rfl (ops_pure true rfl rfl (by first | trivial | (simp; done) | (simp; omega) | (simp at *; done) | (simp at *; omega))) ?_ | refine DrawX_op rfl rfl rfl (ops_pureG true rfl rfl rfl (by intro hG; first | trivial | (simp; done) | (simp; omega) | (simp at *; done) | (simp at *; omega))) ?_ | refine DrawX_fr rfl rfl rfl (fun _ => ops_pure true rfl rfl (by first | trivial | (simp; done) | (simp; omega) | (simp at *; done) | (simp at *; omega))) ?_ | refine DrawX_nil ?_)
      repeat (first | refine stp ?_ | refine N_block_pass rfl ?_ | refine sp1 ?_ | refine sg1 ?_ | refine WL_nil ?_)
      rw [show r.getD (Int.toNat 0) 0 = x from hx, show r.getD (Int.toNat 1) 0 = y from hy]
      refine W_cond rfl (by simp) (fun hc => ?_) (fun hc => ?_)
      · repeat (first | refine stp ?_ | refine N_block_pass rfl ?_ | refine sp1 ?_ | refine sg1 ?_ | refine WL_nil ?_)
        refine s_storeN rfl rfl rfl rfl rfl (by first | trivial | (simp; done) | (simp; omega) | (simp at *; done) | (simp at *; omega)) rfl rfl rfl (by rw [cellsOf4]; rfl) (by rw [info4]; rfl) rfl rfl ?_
        repeat (first | refine stp ?_ | refine N_block_pass rfl ?_ | refine sp1 ?_ | refine sg1 ?_ | refine WL_nil ?_)
        exact rt1 []
      · exfalso
        simp [Bool.cond_eq_ite] at hc
        omega
def endB (r : List Int) (b : Bool) : Bool := b || !(decide (r.length = 1) && r.getD 0 0 == 90)
theorem end10_ok (r : List Int) (b : Bool) (k : Int) (hl : r.length ≤ 1000000) : Ct Try.prog 76 [.c (.ptr 0 0)] [rdB r b k] (.tup []) [rdB r (endB r b) k] [] := by
  by_cases h1 : r.length = 1
  · generalize hx : r.getD 0 0 = x at *
    by_cases h2 : x = 90
    · have e : endB r b = b := by simp only [endB, h1, hx, h2]; simp
      rw [e]
      refine Ct_intro Try.func76 rfl rfl rfl rfl rfl (fun E hn hb => ?_)
      repeat (first | refine stp ?_ | refine N_block_pass rfl ?_ | refine sp1 ?_ | refine sg1 ?_ | refine WL_nil ?_)
      rw [show r.getD (Int.toNat 0) 0 = x from hx]
      refine W_cond rfl (by simp) (fun hc => ?_) (fun hc => ?_)
      · exfalso
        simp [Bool.cond_eq_ite, h1] at hc
        exact hc h2
      · repeat (first | refine stp ?_ | refine N_block_pass rfl ?_ | refine sp1 ?_ | refine sg1 ?_ | refine WL_nil ?_)
        exact rt1 []
    · have e : endB r b = true := by simp only [endB, h1, hx]; simp [h2]
      rw [e]
      refine Ct_intro Try.func76 rfl rfl rfl rfl rfl (fun E hn hb => ?_)
      repeat (first | refine stp ?_ | refine N_block_pass rfl ?_ | refine sp1 ?_ | refine sg1 ?_ | refine WL_nil ?_)
      rw [show r.getD (Int.toNat 0) 0 = x from hx]
      refine W_cond rfl (by simp) (fun hc => ?_) (fun hc => ?_)
      · repeat (first | refine stp ?_ | refine N_block_pass rfl ?_ | refine sp1 ?_ | refine sg1 ?_ | refine WL_nil ?_)
        refine s_storeN rfl rfl rfl rfl rfl (by first | trivial | (simp; done) | (simp; omega) | (simp at *; done) | (simp at *; omega)) rfl rfl rfl (by rw [cellsOf4]; rfl) (by rw [info4]; rfl) rfl rfl ?_
        repeat (first | refine stp ?_ | refine N_block_pass rfl ?_ | refine sp1 ?_ | refine sg1 ?_ | refine WL_nil ?_)
        exact rt1 []
      · exfalso
        simp [Bool.cond_eq_ite, h1] at hc
        exact h2 hc
  · have e : endB r b = true := by simp [endB, h1]
    rw [e]
    refine Ct_intro Try.func76 rfl rfl rfl rfl rfl (fun E hn hb => ?_)
    repeat (first | refine stp ?_ | refine N_block_pass rfl ?_ | refine sp1 ?_ | refine sg1 ?_ | refine WL_nil ?_)
    refine W_cond rfl (by simp) (fun hc => ?_) (fun hc => ?_)
    · repeat (first | refine stp ?_ | refine N_block_pass rfl ?_ | refine sp1 ?_ | refine sg1 ?_ | refine WL_nil ?_)
      refine s_storeN rfl rfl rfl rfl rfl (by first | trivial | (simp; done) | (simp; omega) | (simp at *; done) | (simp at *; omega)) rfl rfl rfl (by rw [cellsOf4]; rfl) (by rw [info4]; rfl) rfl rfl ?_
      repeat (first | refine stp ?_ | refine N_block_pass rfl ?_ | refine sp1 ?_ | refine sg1 ?_ | refine WL_nil ?_)
      exact rt1 []
    · exfalso
      simp [Bool.cond_eq_ite] at hc
      omega
def yr10 (k : Int) (r : List Int) (b : Bool) : Int × List Int × Bool :=
  if k = 24 then (100 * (rd2 r b).1 + (rd2 (rd2 r b).2.1 (rd2 r b).2.2).1, (rd2 (rd2 r b).2.1 (rd2 r b).2.2).2)
  else (if 50 ≤ (rd2 r b).1 then 1900 + (rd2 r b).1 else 2000 + (rd2 r b).1, (rd2 r b).2)
theorem year10_ok (r : List Int) (b : Bool) (k : Int) (hl : r.length ≤ 1000000) : Ct Try.prog 74 [.c (.ptr 0 0)] [rdB r b k] (lv (.int .i64 (yr10 k r b).1)) [rdB (yr10 k r b).2.1 (yr10 k r b).2.2 k] [] := by
  have h1 := two10_ok r b k hl
  have hr1 := rd2_rng r b
  have hl1 := rd2_len r b
  have h2 := two10_ok (rd2 r b).2.1 (rd2 r b).2.2 k (by omega)
  have hr2 := rd2_rng (rd2 r b).2.1 (rd2 r b).2.2
  unfold yr10
  generalize (rd2 (rd2 r b).2.1 (rd2 r b).2.2) = T2 at *
  generalize rd2 r b = T1 at *
  obtain ⟨v1, r1, b1⟩ := T1
  obtain ⟨v2, r2, b2⟩ := T2
  dsimp only at *
  by_cases hk : k = 24
  · subst hk
    rw [if_pos rfl]
    refine Ct_intro Try.func74 rfl rfl rfl rfl rfl (fun E hn hb => ?_)
    repeat (first | refine stp ?_ | refine N_block_pass rfl ?_ | refine sp1 ?_ | refine sg1 ?_ | refine WL_nil ?_)
    refine s_call [0] h1 rfl rfl (by rw [hn]; rfl) rfl rfl (by trivial) ⟨rfl, rfl, (by simp [ordL]), rfl⟩ ?_
    repeat (first | refine stp ?_ | refine N_block_pass rfl ?_ | refine sp1 ?_ | refine sg1 ?_ | refine WL_nil ?_)
    refine W_cond rfl (by simp) (fun hc => ?_) (fun hc => ?_)
    · repeat (first | refine stp ?_ | refine N_block_pass rfl ?_ | refine sp1 ?_ | refine sg1 ?_ | refine WL_nil ?_)
      refine s_call [0] h2 rfl rfl (by rw [hn]; rfl) rfl rfl (by trivial) ⟨rfl, rfl, (by simp [ordL]), rfl⟩ ?_
      repeat (first | refine stp ?_ | refine N_block_pass rfl ?_ | refine sp1 ?_ | refine sg1 ?_ | refine WL_nil ?_)
      exact rt1 []
    · simp at hc
  · rw [if_neg hk]
    refine Ct_intro Try.func74 rfl rfl rfl rfl rfl (fun E hn hb => ?_)
    repeat (first | refine stp ?_ | refine N_block_pass rfl ?_ | refine sp1 ?_ | refine sg1 ?_ | refine WL_nil ?_)
    refine s_call [0] h1 rfl rfl (by rw [hn]; rfl) rfl rfl (by trivial) ⟨rfl, rfl, (by simp [ordL]), rfl⟩ ?_
    repeat (first | refine stp ?_ | refine N_block_pass rfl ?_ | refine sp1 ?_ | refine sg1 ?_ | refine WL_nil ?_)
    refine W_cond rfl (by simp) (fun hc => ?_) (fun hc => ?_)
    · simp at hc; omega
    repeat (first | refine stp ?_ | refine N_block_pass rfl ?_ | refine sp1 ?_ | refine sg1 ?_ | refine WL_nil ?_)
    refine W_cond rfl (by simp) (fun hc => ?_) (fun hc => ?_)
    · have h5 : 50 ≤ v1 := by simpa using hc
      rw [if_pos h5]
      repeat (first | refine stp ?_ | refine N_block_pass rfl ?_ | refine sp1 ?_ | refine sg1 ?_ | refine WL_nil ?_)
      exact rt1 []
    · have h5 : ¬ 50 ≤ v1 := by simpa using hc
      rw [if_neg h5]
      repeat (first | refine stp ?_ | refine N_block_pass rfl ?_ | refine sp1 ?_ | refine sg1 ?_ | refine WL_nil ?_)
      exact rt1 []
end Go.Proofs.Ythalijmfhllgbaa

namespace Go.Proofs.Ythalijmfhllgbaa
set_option linter.unusedSimpArgs false
set_option linter.unusedVariables false
open Go.Sx Dt

set_option maxRecDepth 10000

/-- What is read behind the year: month, day, hour, minute, second, and the end. -/
structure Red where
  y : Int
  m : Int
  d : Int
  h : Int
  i : Int
  s : Int
  bad : Bool
def redP (k : Int) (l : List Int) : Red :=
  let Y := yr10 k l false
  let M := rd2 Y.2.1 Y.2.2
  let D := rd2 M.2.1 M.2.2
  let H := rd2 D.2.1 D.2.2
  let I := rd2 H.2.1 H.2.2
  let S := rd2 I.2.1 I.2.2
  ⟨Y.1, M.1, D.1, H.1, I.1, S.1, endB S.2.1 S.2.2⟩
def redOk (R : Red) : Bool := !R.bad && rightC R.y R.m R.d R.h R.i R.s
def parse10 (k : Int) (l : List Int) : Int × Int × Int :=
  bif knownB k then (bif redOk (redP k l) then (k, secC (redP k l).y (redP k l).m (redP k l).d (redP k l).h (redP k l).i (redP k l).s, 0) else (0, 0, 6)) else (0, 0, 1)
abbrev parR (p : Int × Int × Int) : Av := .tup [timA p.1 p.2.1, lv (.int .i64 p.2.2)]
theorem yr_len (k : Int) (r : List Int) (b : Bool) : (yr10 k r b).2.1.length ≤ r.length := by
  have h1 := rd2_len r b
  have h2 := rd2_len (rd2 r b).2.1 (rd2 r b).2.2
  unfold yr10
  split
  · dsimp only; omega
  · split <;> exact h1
set_option maxHeartbeats 2000000 in
theorem parse10_ok (k : Int) (l : List Int) (hl : l.length ≤ 1000000) : Ct Try.prog 22 [lv (.int .i64 k), B8 l] [] (parR (parse10 k l)) [] [] := by
  have hk := known10_ok k
  unfold parse10
  by_cases h : knownB k = true
  · rw [h, cond_true]
    rw [h] at hk
    have hy := year10_ok l false k hl
    have ly := yr_len k l false
    unfold redOk redP
    dsimp only
    generalize yr10 k l false = Y at *
    obtain ⟨vy, ry, by'⟩ := Y
    dsimp only at *
    have hm := two10_ok ry by' k (by omega)
    have lm := rd2_len ry by'
    generalize rd2 ry by' = M at *
    obtain ⟨vm, rm, bm⟩ := M
    dsimp only at *
    have hd := two10_ok rm bm k (by omega)
    have ld := rd2_len rm bm
    generalize rd2 rm bm = D at *
    obtain ⟨vd, rd, bd⟩ := D
    dsimp only at *
    have hh := two10_ok rd bd k (by omega)
    have lh := rd2_len rd bd
    generalize rd2 rd bd = H at *
    obtain ⟨vh, rh, bh⟩ := H
    dsimp only at *
    have hi := two10_ok rh bh k (by omega)
    have li := rd2_len rh bh
    generalize rd2 rh bh = I at *
    obtain ⟨vi, ri, bi⟩ := I
    dsimp only at *
    have hs := two10_ok ri bi k (by omega)
    have ls := rd2_len ri bi
    generalize rd2 ri bi = S at *
    obtain ⟨vs, rs, bs'⟩ := S
    dsimp only at *
    have he := end10_ok rs bs' k (by omega)
    generalize endB rs bs' = bad at *
    have hsec := psecond_ok vy vm vd vh vi vs
    generalize secC vy vm vd vh vi vs = SC at *
    generalize rightC vy vm vd vh vi vs = RC at *
    refine Ct_intro Try.func22 rfl rfl rfl rfl rfl (fun E hn hb => ?_)
    repeat (first | refine stp ?_ | refine N_block_pass rfl ?_ | refine sp1 ?_ | refine sg1 ?_ | refine WL_nil ?_)
    refine s_allocN rfl rfl rfl (by rw [hn]; rfl) rfl zok44 ?_
    repeat (first | refine stp ?_ | refine N_block_pass rfl ?_ | refine sp1 ?_ | refine sg1 ?_ | refine WL_nil ?_)
    refine s_call0 hk rfl rfl rfl (by rw [hn]; rfl) rfl rfl (by first | trivial | (simp; done) | (simp; omega) | (simp at *; done) | (simp at *; omega)) rfl rfl rfl ?_
    repeat (first | refine stp ?_ | refine N_block_pass rfl ?_ | refine sp1 ?_ | refine sg1 ?_ | refine WL_nil ?_)
    refine W_cond rfl (by simp) (fun hc => ?_) (fun hc => ?_)
    · simp at hc
    clear hc
    repeat (first | refine stp ?_ | refine N_block_pass rfl ?_ | refine sp1 ?_ | refine sg1 ?_ | refine WL_nil ?_)
    refine s_boxN rfl rfl rfl (by rw [hn]; rfl) rfl (by first | trivial | (simp; done) | (simp; omega) | (simp at *; done) | (simp at *; omega)) rfl rfl ?_
    repeat (first | refine stp ?_ | refine N_block_pass rfl ?_ | refine sp1 ?_ | refine sg1 ?_ | refine WL_nil ?_)
    refine s_allocN rfl rfl rfl (by rw [hn]; rfl) rfl zok122 ?_
    repeat (first | refine stp ?_ | refine N_block_pass rfl ?_ | refine sp1 ?_ | refine sg1 ?_ | refine WL_nil ?_)
    refine s_call [82] hy rfl rfl (by rw [hn]; rfl) rfl rfl (by trivial) ⟨rfl, rfl, (by simp [ordL]), rfl⟩ ?_
    repeat (first | refine stp ?_ | refine N_block_pass rfl ?_ | refine sp1 ?_ | refine sg1 ?_ | refine WL_nil ?_)
    refine s_storeN rfl rfl rfl rfl rfl (by first | trivial | (simp; done) | (simp; omega) | (simp at *; done) | (simp at *; omega)) rfl rfl rfl (by rw [cellsOf3]; rfl) (by rw [info3]; rfl) rfl rfl ?_
    repeat (first | refine stp ?_ | refine N_block_pass rfl ?_ | refine sp1 ?_ | refine sg1 ?_ | refine WL_nil ?_)
    refine s_call [82] hm rfl rfl (by rw [hn]; rfl) rfl rfl (by trivial) ⟨rfl, rfl, (by simp [ordL]), rfl⟩ ?_
    repeat (first | refine stp ?_ | refine N_block_pass rfl ?_ | refine sp1 ?_ | refine sg1 ?_ | refine WL_nil ?_)
    refine s_storeN rfl rfl rfl rfl rfl (by first | trivial | (simp; done) | (simp; omega) | (simp at *; done) | (simp at *; omega)) rfl rfl rfl (by rw [cellsOf3]; rfl) (by rw [info3]; rfl) rfl rfl ?_
    repeat (first | refine stp ?_ | refine N_block_pass rfl ?_ | refine sp1 ?_ | refine sg1 ?_ | refine WL_nil ?_)
    refine s_call [82] hd rfl rfl (by rw [hn]; rfl) rfl rfl (by trivial) ⟨rfl, rfl, (by simp [ordL]), rfl⟩ ?_
    repeat (first | refine stp ?_ | refine N_block_pass rfl ?_ | refine sp1 ?_ | refine sg1 ?_ | refine WL_nil ?_)
    refine s_storeN rfl rfl rfl rfl rfl (by first | trivial | (simp; done) | (simp; omega) | (simp at *; done) | (simp at *; omega)) rfl rfl rfl (by rw [cellsOf3]; rfl) (by rw [info3]; rfl) rfl rfl ?_
    repeat (first | refine stp ?_ | refine N_block_pass rfl ?_ | refine sp1 ?_ | refine sg1 ?_ | refine WL_nil ?_)
    refine s_call [82] hh rfl rfl (by rw [hn]; rfl) rfl rfl (by trivial) ⟨rfl, rfl, (by simp [ordL]), rfl⟩ ?_
    repeat (first | refine stp ?_ | refine N_block_pass rfl ?_ | refine sp1 ?_ | refine sg1 ?_ | refine WL_nil ?_)
    refine s_storeN rfl rfl rfl rfl rfl (by first | trivial | (simp; done) | (simp; omega) | (simp at *; done) | (simp at *; omega)) rfl rfl rfl (by rw [cellsOf3]; rfl) (by rw [info3]; rfl) rfl rfl ?_
    repeat (first | refine stp ?_ | refine N_block_pass rfl ?_ | refine sp1 ?_ | refine sg1 ?_ | refine WL_nil ?_)
    refine s_call [82] hi rfl rfl (by rw [hn]; rfl) rfl rfl (by trivial) ⟨rfl, rfl, (by simp [ordL]), rfl⟩ ?_
    repeat (first | refine stp ?_ | refine N_block_pass rfl ?_ | refine sp1 ?_ | refine sg1 ?_ | refine WL_nil ?_)
    refine s_storeN rfl rfl rfl rfl rfl (by first | trivial | (simp; done) | (simp; omega) | (simp at *; done) | (simp at *; omega)) rfl rfl rfl (by rw [cellsOf3]; rfl) (by rw [info3]; rfl) rfl rfl ?_
    repeat (first | refine stp ?_ | refine N_block_pass rfl ?_ | refine sp1 ?_ | refine sg1 ?_ | refine WL_nil ?_)
    refine s_call [82] hs rfl rfl (by rw [hn]; rfl) rfl rfl (by trivial) ⟨rfl, rfl, (by simp [ordL]), rfl⟩ ?_
    repeat (first | refine stp ?_ | refine N_block_pass rfl ?_ | refine sp1 ?_ | refine sg1 ?_ | refine WL_nil ?_)
    refine s_storeN rfl rfl rfl rfl rfl (by first | trivial | (simp; done) | (simp; omega) | (simp at *; done) | (simp at *; omega)) rfl rfl rfl (by rw [cellsOf3]; rfl) (by rw [info3]; rfl) rfl rfl ?_
    repeat (first | refine stp ?_ | refine N_block_pass rfl ?_ | refine sp1 ?_ | refine sg1 ?_ | refine WL_nil ?_)
    refine s_call [82] he rfl rfl (by rw [hn]; rfl) rfl rfl (by trivial) ⟨rfl, rfl, (by simp [ordL]), rfl⟩ ?_
    refine W_weaken (St.le_of (l := [(0, lv (.int .i64 k)), (4, .c (.ptr 68 0)), (6, .c (.ptr 82 0)), (7, .c (.ptr 71 0))]) (h := [(68, .cells [i64c 0, i64c 0]), (71, .cells [i64c vy, i64c vm, i64c vd, i64c vh, i64c vi, i64c vs]), (82, rdB rs bad k)]) (by refine ⟨?_, ?_⟩ <;> (repeat' (first | exact trivial | exact rfl | refine ⟨?_, ?_⟩)) <;> first | exact rfl | (simp; done) | skip)) ?_
    repeat (first | refine stp ?_ | refine N_block_pass rfl ?_ | refine sp1 ?_ | refine sg1 ?_ | refine WL_nil ?_)
    cases bad with
    | true =>
      refine s_call0 hsec rfl rfl rfl (by rw [hn]; rfl) rfl rfl (by first | trivial | (simp; done) | (simp; omega) | (simp at *; done) | (simp at *; omega)) rfl rfl rfl ?_
      repeat (first | refine stp ?_ | refine N_block_pass rfl ?_ | refine sp1 ?_ | refine sg1 ?_ | refine WL_nil ?_)
      refine W_cond rfl (by simp) (fun hc => ?_) (fun hc => ?_)
      · repeat (first | refine stp ?_ | refine N_block_pass rfl ?_ | refine sp1 ?_ | refine sg1 ?_ | refine WL_nil ?_)
        refine s_storeN rfl rfl rfl rfl rfl (by first | trivial | (simp; done) | (simp; omega) | (simp at *; done) | (simp at *; omega)) rfl rfl rfl (by rw [cellsOf44]; rfl) (by rw [info44]; rfl) rfl rfl ?_
        repeat (first | refine stp ?_ | refine N_block_pass rfl ?_ | refine sp1 ?_ | refine sg1 ?_ | refine WL_nil ?_)
        exact rt1 []
      · simp at hc
    | false =>
      cases RC with
      | true =>
        refine s_call0 hsec rfl rfl rfl (by rw [hn]; rfl) rfl rfl (by first | trivial | (simp; done) | (simp; omega) | (simp at *; done) | (simp at *; omega)) rfl rfl rfl ?_
        repeat (first | refine stp ?_ | refine N_block_pass rfl ?_ | refine sp1 ?_ | refine sg1 ?_ | refine WL_nil ?_)
        refine W_cond rfl (by simp) (fun hc => ?_) (fun hc => ?_)
        · simp at hc
        · repeat (first | refine stp ?_ | refine N_block_pass rfl ?_ | refine sp1 ?_ | refine sg1 ?_ | refine WL_nil ?_)
          refine s_storeN rfl rfl rfl rfl rfl (by first | trivial | (simp; done) | (simp; omega) | (simp at *; done) | (simp at *; omega)) rfl rfl rfl (by rw [cellsOf44]; rfl) (by rw [info44]; rfl) rfl rfl ?_
          repeat (first | refine stp ?_ | refine N_block_pass rfl ?_ | refine sp1 ?_ | refine sg1 ?_ | refine WL_nil ?_)
          exact rt1 []
      | false =>
        refine s_call0 hsec rfl rfl rfl (by rw [hn]; rfl) rfl rfl (by first | trivial | (simp; done) | (simp; omega) | (simp at *; done) | (simp at *; omega)) rfl rfl rfl ?_
        repeat (first | refine stp ?_ | refine N_block_pass rfl ?_ | refine sp1 ?_ | refine sg1 ?_ | refine WL_nil ?_)
        refine W_cond rfl (by simp) (fun hc => ?_) (fun hc => ?_)
        · repeat (first | refine stp ?_ | refine N_block_pass rfl ?_ | refine sp1 ?_ | refine sg1 ?_ | refine WL_nil ?_)
          refine s_storeN rfl rfl rfl rfl rfl (by first | trivial | (simp; done) | (simp; omega) | (simp at *; done) | (simp at *; omega)) rfl rfl rfl (by rw [cellsOf44]; rfl) (by rw [info44]; rfl) rfl rfl ?_
          repeat (first | refine stp ?_ | refine N_block_pass rfl ?_ | refine sp1 ?_ | refine sg1 ?_ | refine WL_nil ?_)
          exact rt1 []
        · simp at hc
  · have h : knownB k = false := by simpa using h
    rw [h, cond_false]
    rw [h] at hk
    refine Ct_intro Try.func22 rfl rfl rfl rfl rfl (fun E hn hb => ?_)
    repeat (first | refine stp ?_ | refine N_block_pass rfl ?_ | refine sp1 ?_ | refine sg1 ?_ | refine WL_nil ?_)
    refine s_allocN rfl rfl rfl (by rw [hn]; rfl) rfl zok44 ?_
    repeat (first | refine stp ?_ | refine N_block_pass rfl ?_ | refine sp1 ?_ | refine sg1 ?_ | refine WL_nil ?_)
    refine s_call0 hk rfl rfl rfl (by rw [hn]; rfl) rfl rfl (by first | trivial | (simp; done) | (simp; omega) | (simp at *; done) | (simp at *; omega)) rfl rfl rfl ?_
    repeat (first | refine stp ?_ | refine N_block_pass rfl ?_ | refine sp1 ?_ | refine sg1 ?_ | refine WL_nil ?_)
    refine W_cond rfl (by simp) (fun hc => ?_) (fun hc => ?_)
    · repeat (first | refine stp ?_ | refine N_block_pass rfl ?_ | refine sp1 ?_ | refine sg1 ?_ | refine WL_nil ?_)
      refine s_storeN rfl rfl rfl rfl rfl (by first | trivial | (simp; done) | (simp; omega) | (simp at *; done) | (simp at *; omega)) rfl rfl rfl (by rw [cellsOf44]; rfl) (by rw [info44]; rfl) rfl rfl ?_
      repeat (first | refine stp ?_ | refine N_block_pass rfl ?_ | refine sp1 ?_ | refine sg1 ?_ | refine WL_nil ?_)
      exact rt1 []
    · simp at hc
end Go.Proofs.Ythalijmfhllgbaa

namespace Go.Sx
open Go
set_option linter.unusedVariables false
set_option linter.unusedSimpArgs false
section
variable {P : Program} {E : Env} {ops : Array Oper} {o : Oper} {σ : St}
/-- A nil slice in a cell: an empty row of the call's own, of a type that is known. -/
theorem SR.cell_nilT (e5 : TypeId) {a : Act} {w : World} (j i K : Nat) {cs cs' : List Cell} (hj : σ.hp j = .cells cs) (hi : cs[i]? = some (.lf (.v (.slice none 0 0)))) (hK : Nat.ble 64 K = true) (hne : Nat.beq j K = false) (hcs : ((cs.map (Cell.kill K)).set i (.town K 0 0 e5)) = cs') (h : SR E σ a w) :
    SR E (((σ.kill K).seth K (.row (.ints .u8 []))).seth j (.cells cs')) a w := by
  subst hcs
  have hjK : j ≠ K := by intro e; subst e; simp at hne
  obtain ⟨β, F, h⟩ := h
  have hK64 : 64 ≤ K := by simpa using hK
  have hk := h.kill K (by have := h.nbl; omega)
  have hB := hk.hp j
  have hjk : (σ.kill K).hp j = .cells (cs.map (Cell.kill K)) := by simp [St.kill, hjK, hj, Blk.kill]
  rw [hjk] at hB
  obtain ⟨g, cur, e1, e2, e3, e4⟩ := hB
  have h2 : SRb E (fun i => if i = K then none else β i) F ((σ.kill K).seth K (.row (.ints .u8 []))) a w := by
    refine ⟨hk.tm, hk.sz, hk.df, fun i => ?_, fun i l g h1 h2 e1 e2 => ?_, fun i g h1 e => ?_, hk.lt, hk.fr, hk.keep, hk.bb, hk.nbl⟩
    · by_cases e : i = K
      · subst e
        simp only [St.seth, if_true]
        exact .inl ⟨rfl, fun g hg => by simp at hg⟩
      · simpa [St.seth, e] using hk.hp i
    · by_cases ek : i = K
      · subst ek; simp at e1
      · by_cases el : l = K
        · subst el; simp at e2
        · exact hk.inj i l g (by simpa [St.seth, ek] using h1) (by simpa [St.seth, el] using h2) e1 e2
    · by_cases ek : i = K
      · subst ek; simp at e
      · exact hk.own i g (by simpa [St.seth, ek] using h1) e
  refine ⟨_, F, h2.setBlk (j := j) (by simp [St.seth, hjK, hjk]) ⟨g, cur, e1, e2, by simpa using e3, fun m x v hx hv => ?_⟩⟩
  rw [List.getElem?_set] at hx
  split at hx
  · rename_i him
    subst him
    split at hx
    · simp only [Option.some.injEq] at hx
      subst hx
      have h5 : (cs.map (Cell.kill K))[i]? = some (.lf (.v (.slice none 0 0))) := by rw [List.getElem?_map, hi]; rfl
      have := e4 i _ v h5 hv
      cases this with | lf h => cases h with | v _ _ => exact .town _ _ _ _ _ _ (Nat.le_refl _) (by decide) (.inl rfl)
    · cases hx
  · exact e4 m x v hx hv

end
end Go.Sx

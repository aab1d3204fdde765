/-
  Chapter 03: numbers that are read. The conditions: rows of at most a thousand bytes.
-/
import Derived.Test.YthalijmfhllgbaaDoorC6
namespace Go.Proofs.YthalijmfhllgbaaDoor
set_option linter.unusedSimpArgs false
set_option linter.unusedVariables false
open Go.Sx

set_option maxRecDepth 10000

theorem wrap_i64 (x : Int) (h : -9223372036854775808 ≤ x ∧ x < 9223372036854775808) : IntKind.i64.wrap x = x := by
  simp only [IntKind.wrap, IntKind.signed, IntKind.bits]
  simp
  omega
theorem tdiv_neg (y n : Int) (h : 0 ≤ y) (hn : 0 ≤ n) : (-y).tdiv n = -(y / n) := by rw [Int.neg_tdiv, Int.tdiv_eq_ediv_of_nonneg h]
theorem W_up {P : Program} {E : Env} {Q : Exit → Act → World → Prop} {σ : St} {c : Code} (i : Nat) (x : Av) (hx : AvUp (σ.tm i) x) (h : W P E c Q (σ.set i x)) : W P E c Q σ := by
  intro a w hS
  obtain ⟨β, F, hS⟩ := hS
  refine h a w ⟨β, F, fun j => ?_, hS.sz, hS.df, hS.hp, hS.inj, hS.own, hS.lt, hS.fr, hS.keep, hS.bb, hS.nbl⟩
  have := hS.tm j
  simp only [St.set]
  by_cases hj : j = i
  · subst hj
    simpa using hx.sound this
  · simpa [hj] using this

theorem rem_neg (n : Nat) (hn : (n : Int) ≤ 9223372036854775808) : (-(n : Int)).tmod 256 = -((n : Int) % 256) := by
  rw [Int.neg_tmod, Int.tmod_eq_emod_of_nonneg (by omega)]
theorem quo_neg (n : Nat) (hn : (n : Int) ≤ 9223372036854775808) : IntKind.i64.wrap ((-(n : Int)).tdiv 256) = -((n : Int) / 256) := by
  rw [tdiv_neg _ _ (by omega) (by decide), wrap_i64 _ (by omega)]
theorem rem_pos (n : Nat) (hn : (n : Int) < 9223372036854775808) : (n : Int).tmod 256 = (n : Int) % 256 := by
  rw [Int.tmod_eq_emod_of_nonneg (by omega)]
theorem quo_pos (n : Nat) (hn : (n : Int) < 9223372036854775808) : IntKind.i64.wrap ((n : Int).tdiv 256) = (n : Int) / 256 := by
  rw [Int.tdiv_eq_ediv_of_nonneg (by omega), wrap_i64 _ (by omega)]

def sgn (b : Bool) (n : Nat) : Int := cond b (-(n : Int)) n
theorem sgn_rem (b : Bool) (n : Nat) (hn : (n : Int) ≤ 9223372036854775808) (hb : b = false → (n : Int) < 9223372036854775808) : (sgn b n).tmod 256 = sgn b (n % 256) := by
  cases b
  · show (n : Int).tmod 256 = ((n % 256 : Nat) : Int)
    rw [rem_pos n (hb rfl)]; omega
  · show (-(n : Int)).tmod 256 = -((n % 256 : Nat) : Int)
    rw [rem_neg n hn]; omega
theorem sgn_quo (b : Bool) (n : Nat) (hn : (n : Int) ≤ 9223372036854775808) (hb : b = false → (n : Int) < 9223372036854775808) : IntKind.i64.wrap ((sgn b n).tdiv 256) = sgn b (n / 256) := by
  cases b
  · show IntKind.i64.wrap ((n : Int).tdiv 256) = ((n / 256 : Nat) : Int)
    rw [quo_pos n (hb rfl)]; omega
  · show IntKind.i64.wrap ((-(n : Int)).tdiv 256) = -((n / 256 : Nat) : Int)
    rw [quo_neg n hn]; omega

theorem dig_len : ∀ (k n : Nat), n < 256 ^ k → (digL n).length ≤ k
  | 0, n, h => by
    have : n = 0 := by simpa using h
    subst this; rw [dig_zero]; simp
  | k + 1, n, h => by
    by_cases h0 : n = 0
    · subst h0; rw [dig_zero]; simp
    · rw [dig_pos h0]
      have : n / 256 < 256 ^ k := by rw [Nat.pow_succ] at h; omega
      have := dig_len k (n / 256) this
      simp; omega
structure OfI (N : Nat) where
  n : Nat
  out : List Int
  le : n ≤ N
  ev : digL n ++ out = digL N

theorem refof_ok (k : Int) (h0 : -9223372036854775808 ≤ k) (h1 : k < 9223372036854775808) : Ct Tryd.prog 45 [lv (.int .i64 k)] [] (numA (decide (k < 0)) (digL k.natAbs)) [] [] := by
  have hk : k = sgn (decide (k < 0)) k.natAbs := by
    unfold sgn
    by_cases h : k < 0
    · simp only [h, decide_true, cond_true]; omega
    · simp only [h, decide_false, cond_false]; omega
  have hN : (k.natAbs : Int) ≤ 9223372036854775808 := by omega
  have hNb : decide (k < 0) = false → (k.natAbs : Int) < 9223372036854775808 := by intro h; simp at h; omega
  refine Ct_intro Tryd.func45 rfl rfl rfl rfl rfl (fun E hn hb => ?_)
  repeat (first | refine stp ?_ | refine N_block_pass rfl ?_ | refine sp1 ?_ | refine sg1 ?_ | refine WL_nil ?_)
  refine s_allocN rfl rfl rfl (by rw [hn]; rfl) rfl zok74 ?_
  repeat (first | refine stp ?_ | refine N_block_pass rfl ?_ | refine sp1 ?_ | refine sg1 ?_ | refine WL_nil ?_)
  generalize decide (k < 0) = b at *
  generalize k.natAbs = N at *
  refine W_up 3 (B8 []) (.inr ⟨rfl, .inl ⟨_, rfl⟩⟩) ?_
  refine W_weaken (St.le_of (l := [(0, lv (.int .i64 k)), (2, .c (.ptr 66 0)), (3, B8 []), (4, lv (.bool b))]) (h := [(66, .cells [.lf (.v (.bool false)), .lf (.v (.slice none 0 0))])]) (by refine ⟨?_, ?_⟩ <;> (repeat' (first | exact trivial | exact rfl | refine ⟨?_, ?_⟩)) <;> first | exact rfl | (simp; done) | skip)) ?_
  rw [hk]
  refine W_loop (ι := OfI N) (fun i => St.of [(0, lv (.int .i64 (sgn b i.n))), (2, .c (.ptr 66 0)), (3, B8 i.out), (4, lv (.bool b))] [(66, .cells [.lf (.v (.bool false)), .lf (.v (.slice none 0 0))])]) (fun i => i.n) (fun i => ?_) ⟨N, [], Nat.le_refl _, by simp⟩
  obtain ⟨n, out, le, ev⟩ := i
  dsimp only
  have hr := sgn_rem b n (by omega) (fun h => by have := hNb h; omega)
  have hq := sgn_quo b n (by omega) (fun h => by have := hNb h; omega)
  have hdl := dig_len 8 N (by omega)
  have hol : out.length ≤ 8 := by rw [← ev] at hdl; simp at hdl; omega
  have hs0 : sgn b n = 0 ↔ n = 0 := by cases b <;> simp [sgn]
  repeat (first | refine stp ?_ | refine N_block_pass rfl ?_ | refine sp1 ?_ | refine sg1 ?_ | refine WL_nil ?_)
  refine W_cond rfl (by simp) (fun hc => ?_) (fun hc => ?_)
  · have hn0 : n ≠ 0 := by
      intro h
      have := hs0.2 h
      simp [this] at hc
    repeat (first | refine stp ?_ | refine N_block_pass rfl ?_ | refine sp1 ?_ | refine sg1 ?_ | refine WL_nil ?_)
    refine sp false rfl rfl (by rw [hn]; rfl) (by first | trivial | (simp; done) | (simp; omega) | (simp at *; done) | (simp at *; omega)) ?_
    rw [hr]
    repeat (first | refine stp ?_ | refine N_block_pass rfl ?_ | refine sp1 ?_ | refine sg1 ?_ | refine WL_nil ?_)
    refine W_join (St.of [(0, lv (.int .i64 (sgn b n))), (2, .c (.ptr 66 0)), (3, B8 out), (4, lv (.bool b)), (5, lv (.int .i64 ((n % 256 : Nat) : Int)))] [(66, .cells [.lf (.v (.bool false)), .lf (.v (.slice none 0 0))])]) ?_ ?_
    · refine W_cond rfl (by simp) (fun hd => ?_) (fun hd => ?_)
      · have hd1 : sgn b (n % 256) < 0 := by simpa using hd
        have e : - sgn b (n % 256) = ((n % 256 : Nat) : Int) := by
          cases b
          · simp only [sgn, cond_false] at hd1; omega
          · simp only [sgn, cond_true]; omega
        have hlt : sgn b (n % 256) ≤ 255 ∧ -255 ≤ sgn b (n % 256) := by cases b <;> simp only [sgn, cond_false, cond_true] <;> omega
        repeat (first | refine stp ?_ | refine N_block_pass rfl ?_ | refine sp1 ?_ | refine sg1 ?_ | refine WL_nil ?_)
        rw [e]
        (refine N_join ?_; refine St.le_of ⟨?_, ?_⟩ <;> (repeat' (first | exact trivial | exact rfl | refine ⟨?_, ?_⟩)) <;> first | exact rfl | (simp; done) | skip)
      · have hd1 : ¬ sgn b (n % 256) < 0 := by simpa using hd
        have e : sgn b (n % 256) = ((n % 256 : Nat) : Int) := by
          cases b
          · rfl
          · simp only [sgn, cond_true] at hd1 ⊢; omega
        repeat (first | refine stp ?_ | refine N_block_pass rfl ?_ | refine sp1 ?_ | refine sg1 ?_ | refine WL_nil ?_)
        rw [e]
        (refine N_join ?_; refine St.le_of ⟨?_, ?_⟩ <;> (repeat' (first | exact trivial | exact rfl | refine ⟨?_, ?_⟩)) <;> first | exact rfl | (simp; done) | skip)
    repeat (first | refine stp ?_ | refine N_block_pass rfl ?_ | refine sp1 ?_ | refine sg1 ?_ | refine WL_nil ?_)
    refine s_litI rfl rfl rfl (by rw [hn]; rfl) (elt_mk Tryd.underlying28 rfl rfl) (zok5) (by first | trivial | (simp; done) | (simp; omega) | (simp at *; done) | (simp at *; omega)) ⟨by decide, rfl⟩ ?_
    repeat (first | refine stp ?_ | refine N_block_pass rfl ?_ | refine sp1 ?_ | refine sg1 ?_ | refine WL_nil ?_)
    refine s_appI rfl rfl rfl rfl rfl rfl (by rw [hn]; rfl) (elt_mk Tryd.underlying28 rfl rfl) rfl rfl rfl rfl (by first | trivial | (simp; done) | (simp; omega) | (simp at *; done) | (simp at *; omega)) (by first | rfl | (simp; done) | (simp; omega)) ⟨by first | (simp; done) | (simp; omega) | (simp at *; omega), by decide⟩ ?_
    repeat (first | refine stp ?_ | refine N_block_pass rfl ?_ | refine sp1 ?_ | refine sg1 ?_ | refine WL_nil ?_)
    refine sp false rfl rfl (by rw [hn]; rfl) (by first | trivial | (simp; done) | (simp; omega) | (simp at *; done) | (simp at *; omega)) ?_
    rw [hq]
    repeat (first | refine stp ?_ | refine N_block_pass rfl ?_ | refine sp1 ?_ | refine sg1 ?_ | refine WL_nil ?_)
    refine N_freeze 82 [(3, B8 (((n % 256 : Nat) : Int) :: out))] rfl hb ⟨⟨rfl, rfl, rfl, ?_, ?_⟩, rfl⟩ ?_
    · rw [Nat.zero_add]; exact Nat.le_refl _
    · rw [List.drop_zero, List.take_length]; rfl
    refine N_round ⟨n / 256, ((n % 256 : Nat) : Int) :: out, by omega, by rw [← ev, dig_pos hn0]; simp⟩ (by dsimp only; omega) (St.le_of ⟨⟨rfl, rfl, rfl, rfl⟩, rfl⟩)
  · have hn0 : n = 0 := by
      have : sgn b n = 0 := by simpa using hc
      exact hs0.1 this
    subst hn0
    rw [dig_zero] at ev
    have e : out = digL N := by simpa using ev
    subst e
    repeat (first | refine stp ?_ | refine N_block_pass rfl ?_ | refine sp1 ?_ | refine sg1 ?_ | refine WL_nil ?_)
    refine s_storeN rfl rfl rfl rfl rfl (by first | trivial | (simp; done) | (simp; omega) | (simp at *; done) | (simp at *; omega)) rfl rfl rfl (by rw [cellsOf74]; rfl) (by rw [info74]; rfl) rfl rfl ?_
    repeat (first | refine stp ?_ | refine N_block_pass rfl ?_ | refine sp1 ?_ | refine sg1 ?_ | refine WL_nil ?_)
    exact rt1 []
end Go.Proofs.YthalijmfhllgbaaDoor

namespace Go.Proofs.YthalijmfhllgbaaDoor
set_option linter.unusedSimpArgs false
set_option linter.unusedVariables false
open Go.Sx

set_option maxRecDepth 10000

def ofT (n : Int) : TagP := (0, n, decide (n = 16 ∨ n = 17))
theorem headof_ok (n : Int) : Ct Tryd.prog 35 [lv (.int .i64 n)] [] (tagA (ofT n)) [] [] := by
  refine Ct_intro Tryd.func35 rfl rfl rfl rfl rfl (fun E hn hb => ?_)
  repeat (first | refine stp ?_ | refine N_block_pass rfl ?_ | refine sp1 ?_ | refine sg1 ?_ | refine WL_nil ?_)
  refine s_allocN rfl rfl rfl (by rw [hn]; rfl) rfl zok55 ?_
  repeat (first | refine stp ?_ | refine N_block_pass rfl ?_ | refine sp1 ?_ | refine sg1 ?_ | refine WL_nil ?_)
  refine s_storeN rfl rfl rfl rfl rfl (by first | trivial | (simp; done) | (simp; omega) | (simp at *; done) | (simp at *; omega)) rfl rfl rfl (by rw [cellsOf55]; rfl) (by rw [info55]; rfl) rfl rfl ?_
  repeat (first | refine stp ?_ | refine N_block_pass rfl ?_ | refine sp1 ?_ | refine sg1 ?_ | refine WL_nil ?_)
  refine rt2 [] ?_ ?_
  · show Av.agg [.lf (.v (.int .i64 0)), .lf (.v (.int .i64 n)), .lf (.v (.bool (cond (n == 16) true (n == 17))))] = _
    have e : (cond (n == 16) true (n == 17)) = decide (n = 16 ∨ n = 17) := by
      by_cases h1 : n = 16 <;> by_cases h2 : n = 17 <;> simp [h1, h2]
    rw [e]
    rfl
  · trivial
def rightT (t : TagP) : Bool := decide (0 ≤ t.1 ∧ t.1 ≤ 3 ∧ 0 ≤ t.2.1 ∧ t.2.1 < 2097152)
theorem headright_ok (t : TagP) : Ct Tryd.prog 73 [tagA t] [] (lv (.bool (rightT t))) [] [] := by
  refine Ct_intro Tryd.func73 rfl rfl rfl rfl rfl (fun E hn hb => ?_)
  repeat (first | refine stp ?_ | refine N_block_pass rfl ?_ | refine sp1 ?_ | refine sg1 ?_ | refine WL_nil ?_)
  refine s_boxN rfl rfl rfl (by rw [hn]; rfl) rfl (by first | trivial | (simp; done) | (simp; omega) | (simp at *; done) | (simp at *; omega)) rfl rfl ?_
  repeat (first | refine stp ?_ | refine N_block_pass rfl ?_ | refine sp1 ?_ | refine sg1 ?_ | refine WL_nil ?_)
  refine rt2 [] ?_ ?_
  · show lv (.bool (cond (cond (cond (decide (0 ≤ t.1)) (decide (t.1 ≤ 3)) false) (decide (0 ≤ t.2.1)) false) (decide (t.2.1 < 2097152)) false)) = _
    have e : (cond (cond (cond (decide (0 ≤ t.1)) (decide (t.1 ≤ 3)) false) (decide (0 ≤ t.2.1)) false) (decide (t.2.1 < 2097152)) false) = rightT t := by
      unfold rightT
      by_cases h1 : 0 ≤ t.1 <;> by_cases h2 : t.1 ≤ 3 <;> by_cases h3 : 0 ≤ t.2.1 <;> by_cases h4 : t.2.1 < 2097152 <;> simp [h1, h2, h3, h4]
    rw [e]
    rfl
  · trivial
end Go.Proofs.YthalijmfhllgbaaDoor

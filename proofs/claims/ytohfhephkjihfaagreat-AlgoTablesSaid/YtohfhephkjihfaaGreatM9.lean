/-
  Chapter 12, the document's constants by roots: primes, squares and cubes, roots; words turned and shifted. The conditions: numbers below 2^36, primes below a thousand, words below 2^32.
-/
import Derived.Test.YtohfhephkjihfaaGreatM3
namespace Go.Proofs.YtohfhephkjihfaaGreat
set_option linter.unusedSimpArgs false
set_option linter.unusedVariables false
open Go.Sx
set_option maxRecDepth 10000
def squareS (x p : Int) : Bool :=
 let u := x / 262144
 let v := x % 262144
 let c := v * v
 let low := c % 262144
 let c := 2 * u * v + c / 262144
 let low := low + c % 262144
 let c := u * u + c / 262144
 cond (decide (c < p * 268435456)) true (cond (c == p * 268435456) (low == 0) false)
def cubeS (x p : Int) : Bool :=
 let u := x / 262144
 let v := x % 262144
 let c := v * v * v
 let low := c % 262144
 let c := 3 * u * v * v + c / 262144
 let low := low + c % 262144
 let c := 3 * u * u * v + c / 262144
 let low := low + c % 262144
 let c := u * u * u + c / 262144
 cond (decide (c < p * 4398046511104)) true (cond (c == p * 4398046511104) (low == 0) false)
def belowS (x p t : Int) : Bool := if t = 2 then squareS x p else cubeS x p
def rootF (p t : Int) : Nat → Int → Int
 | 0, x => x
 | n + 1, x => rootF p t n (if x + 2 ^ n < 68719476736 ∧ belowS (x + 2 ^ n) p t = true then x + 2 ^ n else x)
def rootS (p t : Int) : Int := rootF p t 36 0 % 4294967296
def prm : Nat → List Int
 | 0 => []
 | k + 1 => if 2 ≤ k ∧ (prm k).all (fun q => (k : Int) % q != 0) = true then prm k ++ [(k : Int)] else prm k
def prmA : Nat → List Int → Nat → List Int
 | 0, l, _ => l
 | n + 1, l, k => prmA n (if 2 ≤ k ∧ l.all (fun q => (k : Int) % q != 0) = true then l ++ [(k : Int)] else l) (k + 1)
theorem prmA_eq : ∀ (n k : Nat), prmA n (prm k) k = prm (k + n)
 | 0, k => rfl
 | n + 1, k => by
   rw [show k + (n + 1) = k + 1 + n by omega, ← prmA_eq n (k + 1)]
   rfl
def pr64 : List Int := prmA 312 [] 0
theorem prm_312 : prm 312 = pr64 := by
 have h := prmA_eq 312 0
 rw [Nat.zero_add] at h
 exact h.symm
theorem prm_len : (prm 311).length = 63 ∧ pr64.length = 64 := by
 have h1 := prmA_eq 311 0
 rw [Nat.zero_add] at h1
 rw [← h1]
 exact ⟨by decide +kernel, by decide +kernel⟩
theorem pr64_low : ∀ x, x ∈ pr64 → 0 ≤ x ∧ x < 1000 := by decide +kernel
theorem roots8 : (pr64.take 8).map (rootS · 2) = H0.l := by decide +kernel
theorem roots64 : pr64.map (rootS · 3) = KS := by decide +kernel
theorem prm_mono : ∀ (j k : Nat), (prm k).length ≤ (prm (k + j)).length
 | 0, k => Nat.le_refl _
 | j + 1, k => by
   have h1 := prm_mono j k
   have h2 : (prm (k + j)).length ≤ (prm (k + (j + 1))).length := by
     show _ ≤ (prm (k + j + 1)).length
     simp only [prm]
     split
     · simp
     · exact Nat.le_refl _
   omega
theorem prm_low : ∀ k : Nat, ∀ q ∈ prm k, 2 ≤ q ∧ q < (k : Int)
 | 0, q, h => by simp [prm] at h
 | k + 1, q, h => by
   simp only [prm] at h
   split at h
   · rename_i hk
     rcases List.mem_append.1 h with h | h
     · have := prm_low k q h
       omega
     · rw [List.mem_singleton.1 h]
       omega
   · have := prm_low k q h
     omega
theorem sq_bound {a b A B : Int} (ha : 0 ≤ a) (ha2 : a ≤ A) (hb : 0 ≤ b) (hb2 : b ≤ B) : 0 ≤ a * b ∧ a * b ≤ A * B :=
 ⟨Int.mul_nonneg ha hb, Int.mul_le_mul ha2 hb2 hb (by omega)⟩
theorem square_ok (x p : Int) (hx : 0 ≤ x ∧ x < 68719476736) (hp : 0 ≤ p ∧ p < 1000) : Ct Tryz.prog 55 [lv (.int .i64 x), lv (.int .i64 p)] [] (lv (.bool (squareS x p))) [] [] := by
 have hu : 0 ≤ x / 262144 ∧ x / 262144 ≤ 262143 := by omega
 have hv : 0 ≤ x % 262144 ∧ x % 262144 ≤ 262143 := by omega
 have b1 := sq_bound hv.1 hv.2 hv.1 hv.2
 have b2 := sq_bound (a := 2 * (x / 262144)) (A := 2 * 262143) (by omega) (by omega) hv.1 hv.2
 have b3 := sq_bound hu.1 hu.2 hu.1 hu.2
 unfold squareS
 dsimp only
 refine Ct_intro Tryz.func55 rfl rfl rfl rfl rfl (fun E hn hb => ?_)
 repeat (refine nst ?_)
 generalize x / 262144 = u at *
 generalize x % 262144 = v at *
 repeat (refine nst ?_)
 refine rt2 [] ?_ ?_
 · rfl
 · trivial
theorem cube_ok (x p : Int) (hx : 0 ≤ x ∧ x < 68719476736) (hp : 0 ≤ p ∧ p < 1000) : Ct Tryz.prog 56 [lv (.int .i64 x), lv (.int .i64 p)] [] (lv (.bool (cubeS x p))) [] [] := by
 have hu : 0 ≤ x / 262144 ∧ x / 262144 ≤ 262143 := by omega
 have hv : 0 ≤ x % 262144 ∧ x % 262144 ≤ 262143 := by omega
 have b1 := sq_bound hv.1 hv.2 hv.1 hv.2
 have b2 := sq_bound b1.1 b1.2 hv.1 hv.2
 have b3 := sq_bound (a := 3 * (x / 262144)) (A := 3 * 262143) (by omega) (by omega) hv.1 hv.2
 have b4 := sq_bound b3.1 b3.2 hv.1 hv.2
 have b5 := sq_bound (a := 3 * (x / 262144)) (A := 3 * 262143) (by omega) (by omega) hu.1 hu.2
 have b6 := sq_bound b5.1 b5.2 hv.1 hv.2
 have b7 := sq_bound hu.1 hu.2 hu.1 hu.2
 have b8 := sq_bound b7.1 b7.2 hu.1 hu.2
 unfold cubeS
 dsimp only
 refine Ct_intro Tryz.func56 rfl rfl rfl rfl rfl (fun E hn hb => ?_)
 repeat (refine nst ?_)
 generalize x / 262144 = u at *
 generalize x % 262144 = v at *
 repeat (refine nst ?_)
 refine rt2 [] ?_ ?_
 · rfl
 · trivial
theorem below_ok (x p t : Int) (hx : 0 ≤ x ∧ x < 68719476736) (hp : 0 ≤ p ∧ p < 1000) : Ct Tryz.prog 39 [lv (.int .i64 x), lv (.int .i64 p), lv (.int .i64 t)] [] (lv (.bool (belowS x p t))) [] [] := by
 refine Ct_intro Tryz.func39 rfl rfl rfl rfl rfl (fun E hn hb => ?_)
 repeat (refine nst ?_)
 refine W_cond rfl (by simp) (fun hq => ?_) (fun hq => ?_)
 · have ht : t = 2 := by simpa using hq
   rw [belowS, if_pos ht]
   repeat (refine nst ?_)
   refine s_call0 (square_ok x p hx hp) rfl rfl rfl (by rw [hn]; rfl) rfl rfl (by exact vcs) rfl rfl rfl ?_
   repeat (refine nst ?_)
   exact rt1 []
 · have ht : ¬ t = 2 := by simpa using hq
   rw [belowS, if_neg ht]
   repeat (refine nst ?_)
   refine s_call0 (cube_ok x p hx hp) rfl rfl rfl (by rw [hn]; rfl) rfl rfl (by exact vcs) rfl rfl rfl ?_
   repeat (refine nst ?_)
   exact rt1 []
def bitS : Nat → Int
 | 0 => 0
 | n + 1 => 2 ^ n
theorem bitS_fact : ∀ n : Fin 37, 0 ≤ bitS n.val ∧ bitS n.val ≤ 34359738368 ∧ bitS n.val / 2 = bitS (n.val - 1) ∧ (0 < bitS n.val ↔ 0 < n.val) := by decide
structure RI where
 x : Int
 n : Nat
theorem root_ok (p t : Int) (hp : 0 ≤ p ∧ p < 1000) : Ct Tryz.prog 23 [lv (.int .i64 p), lv (.int .i64 t)] [] (lv (.int .i64 (rootS p t))) [] [] := by
 obtain ⟨RR, hRR⟩ : ∃ RR, rootF p t 36 0 = RR := ⟨_, rfl⟩
 rw [rootS, hRR]
 refine Ct_intro Tryz.func23 rfl rfl rfl rfl rfl (fun E hn hb => ?_)
 repeat (refine nst ?_)
 refine W_weaken (St.le_of (l := [(0, lv (.int .i64 p)), (1, lv (.int .i64 t)), (5, lv (.int .i64 0)), (6, lv (.int .i64 34359738368))]) (h := []) (by refine ⟨?_, ?_⟩ <;> (repeat' (first | exact trivial | exact rfl | refine ⟨?_, ?_⟩)) <;> first | exact rfl | (simp; done) | skip)) ?_
 refine W_loop (ι := {r : RI // r.n ≤ 36 ∧ 0 ≤ r.x ∧ r.x < 68719476736 ∧ rootF p t r.n r.x = RR}) (fun r => St.of [(0, lv (.int .i64 p)), (1, lv (.int .i64 t)), (5, lv (.int .i64 r.1.x)), (6, lv (.int .i64 (bitS r.1.n)))] []) (fun r => r.1.n) (fun r => ?_) ⟨⟨0, 36⟩, by dsimp only; omega, by dsimp only; omega, by dsimp only; omega, hRR⟩
 obtain ⟨⟨x, n⟩, q1, q2, q3, q4⟩ := r
 have hn36 : n ≤ 36 := q1
 have hx0 : 0 ≤ x := q2
 have hx1 : x < 68719476736 := q3
 have hrf : rootF p t n x = RR := q4
 dsimp only
 clear q1 q2 q3 q4
 obtain ⟨f1, f2, f3, f4⟩ := bitS_fact ⟨n, by omega⟩
 dsimp only at f1 f2 f3 f4
 repeat (refine nst ?_)
 refine W_cond rfl (by simp) (fun hq => ?_) (fun hq => ?_)
 · obtain ⟨k, rfl⟩ : ∃ k, n = k + 1 := ⟨n - 1, by simp at hq; omega⟩
   have ebk : bitS (k + 1) = 2 ^ k := rfl
   simp only [rootF] at hrf
   rw [← ebk] at hrf
   rw [show k + 1 - 1 = k by omega] at f3
   generalize bitS (k + 1) = b at *
   repeat (refine nst ?_)
   refine WL_q (opq_callG rfl rfl rfl rfl rfl (fun hG => below_ok (x + b) p t ⟨by omega, by simpa using hG⟩ hp) (fun hG => by trivial) rfl rfl) (by rw [hn]; rfl) ?_
   repeat (refine nst ?_)
   refine W_cond rfl (by simp) (fun hr => ?_) (fun hr => ?_)
   · have hb2 : x + b < 68719476736 ∧ belowS (x + b) p t = true := by
       by_cases h : x + b < 68719476736
       · refine ⟨h, ?_⟩
         simpa [h] using hr
       · simp [h] at hr
     rw [if_pos hb2] at hrf
     repeat (refine nst ?_)
     rw [f3]
     refine N_round ⟨⟨x + b, k⟩, by dsimp only; omega, by dsimp only; omega, hb2.1, hrf⟩ (by dsimp only; omega) (St.le_of ⟨⟨rfl, rfl, rfl, rfl⟩, trivial⟩)
   · have hb2 : ¬ (x + b < 68719476736 ∧ belowS (x + b) p t = true) := by
       rintro ⟨h1, h2⟩
       simp [h1, h2] at hr
     rw [if_neg hb2] at hrf
     repeat (refine nst ?_)
     rw [f3]
     refine N_round ⟨⟨x, k⟩, by dsimp only; omega, by dsimp only; omega, by dsimp only; omega, hrf⟩ (by dsimp only; omega) (St.le_of ⟨⟨rfl, rfl, rfl, rfl⟩, trivial⟩)
 · have h0 : n = 0 := by simp at hq; omega
   subst h0
   have : x = RR := hrf
   subst this
   repeat (refine nst ?_)
   exact rt1 []
theorem rR_zero (x : Int) : rR x 0 = x := by
 unfold rR
 simp [Int.emod_one]
theorem rR_step {x : Int} (h : W32 x) (i : Nat) (hi : i < 32) : rR x (i + 1) = rR x i / 2 + rR x i % 2 * 2147483648 := by
 obtain ⟨m, rfl, hm⟩ := w32_nat h
 rw [rR_nat, rR_nat]
 have e1 : m / 2 ^ (i + 1) = m / 2 ^ i / 2 := by rw [Nat.pow_succ, Nat.div_div_eq_div_mul]
 have e2 : m % 2 ^ (i + 1) = m % 2 ^ i + 2 ^ i * (m / 2 ^ i % 2) := by rw [Nat.pow_succ, Nat.mod_mul]
 have e3 : 2 ^ (32 - i) = 2 * 2 ^ (32 - (i + 1)) := by rw [show 32 - i = (32 - (i + 1)) + 1 by omega, Nat.pow_succ, Nat.mul_comm]
 have e4 : 2 ^ i * 2 ^ (32 - (i + 1)) = 2147483648 := by rw [← Nat.pow_add, show i + (32 - (i + 1)) = 31 by omega]
 rw [e1, e2, e3]
 generalize m / 2 ^ i = q
 generalize m % 2 ^ i = s
 have e5 : (s + 2 ^ i * (q % 2)) * 2 ^ (32 - (i + 1)) = s * 2 ^ (32 - (i + 1)) + q % 2 * 2147483648 := by
   rw [Nat.add_mul, Nat.mul_comm (2 ^ i), Nat.mul_assoc, e4]
 have e6 : s * (2 * 2 ^ (32 - (i + 1))) = 2 * (s * 2 ^ (32 - (i + 1))) := by rw [Nat.mul_left_comm]
 rw [e5, e6]
 generalize s * 2 ^ (32 - (i + 1)) = z
 omega
theorem right32_ok (x : Int) (n : Nat) (hx : W32 x) (hn32 : n ≤ 32) : Ct Tryz.prog 24 [lv (.int .i64 x), lv (.int .i64 n)] [] (lv (.int .i64 (rR x n))) [] [] := by
 refine Ct_intro Tryz.func24 rfl rfl rfl rfl rfl (fun E hn hb => ?_)
 repeat (refine nst ?_)
 refine W_weaken (St.le_of (l := [(0, lv (.int .i64 x)), (1, lv (.int .i64 n)), (5, lv (.int .i64 0))]) (h := []) (by refine ⟨?_, ?_⟩ <;> (repeat' (first | exact trivial | exact rfl | refine ⟨?_, ?_⟩)) <;> first | exact rfl | (simp; done) | skip)) ?_
 refine W_weaken (τ := St.of [(0, lv (.int .i64 (rR x 0))), (1, lv (.int .i64 n)), (5, lv (.int .i64 ((0 : Nat) : Int)))] []) ?_ ?_
 · rw [rR_zero]; exact ⟨fun _ => .inl rfl, fun _ => .inl rfl⟩
 refine W_loop (ι := {i : Nat // i ≤ n}) (fun i => St.of [(0, lv (.int .i64 (rR x i.1))), (1, lv (.int .i64 n)), (5, lv (.int .i64 (i.1 : Int)))] []) (fun i => n - i.1) (fun i => ?_) ⟨0, by omega⟩
 obtain ⟨i, hi⟩ := i
 dsimp only
 have hlow := rR_low hx (n := i) (by omega)
 unfold W32 at hlow
 repeat (refine nst ?_)
 refine W_cond rfl (by simp) (fun hq => ?_) (fun hq => ?_)
 · have hin : i < n := by simpa using hq
   have hst := rR_step hx i (by omega)
   generalize rR x i = r at *
   repeat (refine nst ?_)
   refine N_round ⟨i + 1, by omega⟩ (by dsimp only; omega) (St.le_of ⟨⟨congrArg (fun y => lv (.int .i64 y)) hst.symm, rfl, rfl⟩, trivial⟩)
 · have : i = n := by simp at hq; omega
   subst this
   repeat (refine nst ?_)
   exact rt1 []
theorem down_ok (x : Int) (n : Nat) (hx : W32 x) (hn32 : n ≤ 32) : Ct Tryz.prog 25 [lv (.int .i64 x), lv (.int .i64 n)] [] (lv (.int .i64 (x / 2 ^ n))) [] [] := by
 refine Ct_intro Tryz.func25 rfl rfl rfl rfl rfl (fun E hn hb => ?_)
 repeat (refine nst ?_)
 refine W_weaken (St.le_of (l := [(0, lv (.int .i64 x)), (1, lv (.int .i64 n)), (5, lv (.int .i64 0))]) (h := []) (by refine ⟨?_, ?_⟩ <;> (repeat' (first | exact trivial | exact rfl | refine ⟨?_, ?_⟩)) <;> first | exact rfl | (simp; done) | skip)) ?_
 refine W_weaken (τ := St.of [(0, lv (.int .i64 (x / 2 ^ 0))), (1, lv (.int .i64 n)), (5, lv (.int .i64 ((0 : Nat) : Int)))] []) ?_ ?_
 · rw [Int.pow_zero, Int.ediv_one]; exact ⟨fun _ => .inl rfl, fun _ => .inl rfl⟩
 refine W_loop (ι := {i : Nat // i ≤ n}) (fun i => St.of [(0, lv (.int .i64 (x / 2 ^ i.1))), (1, lv (.int .i64 n)), (5, lv (.int .i64 (i.1 : Int)))] []) (fun i => n - i.1) (fun i => ?_) ⟨0, by omega⟩
 obtain ⟨i, hi⟩ := i
 dsimp only
 have hlow := div_low hx i
 unfold W32 at hlow
 repeat (refine nst ?_)
 refine W_cond rfl (by simp) (fun hq => ?_) (fun hq => ?_)
 · have hin : i < n := by simpa using hq
   have hst : x / 2 ^ i / 2 = x / 2 ^ (i + 1) := by rw [Int.pow_succ, Int.ediv_ediv_of_nonneg (Int.pow_nonneg (by decide))]
   generalize x / 2 ^ i = r at *
   repeat (refine nst ?_)
   refine N_round ⟨i + 1, by omega⟩ (by dsimp only; omega) (St.le_of ⟨⟨congrArg (fun y => lv (.int .i64 y)) hst, rfl, rfl⟩, trivial⟩)
 · have : i = n := by simp at hq; omega
   subst this
   repeat (refine nst ?_)
   exact rt1 []
set_option maxHeartbeats 4000000 in
theorem primes_ok : Ct Tryz.prog 22 [lv (.int .i64 64)] [] (.c (.lf (.ints .i64 pr64))) [] [] := by
 have hpl := prm_len
 refine Ct.freeze (res := .c (.own 0 1 0 64)) (d := .ints .i64 pr64) ?_ ⟨rfl, rfl, rfl, by omega, by rw [List.drop_zero, List.take_of_length_le (by omega)]⟩ rfl
 rw [← prm_312] at hpl ⊢
 refine Ct_intro Tryz.func22 rfl rfl rfl rfl rfl (fun E hn hb => ?_)
 repeat (refine nst ?_)
 refine W_own_nil 3 200 1 (.ints .i64 []) rfl rfl (.inr (.inl ⟨_, rfl⟩)) ?_
 refine W_weaken (St.le_of (l := [(0, lv (.int .i64 64)), (3, .c (.own 200 1 0 0)), (4, lv (.int .i64 2))]) (h := [(200, .row (.ints .i64 []))]) (by refine ⟨?_, ?_⟩ <;> (repeat' (first | exact trivial | exact rfl | refine ⟨?_, ?_⟩)) <;> first | exact rfl | (simp; done) | skip)) ?_
 have e2 : prm 2 = [] := by decide
 refine W_loop (ι := {k : Nat // 2 ≤ k ∧ k ≤ 312}) (fun k => St.of [(0, lv (.int .i64 64)), (3, .c (.own 200 1 0 (prm k.1).length)), (4, lv (.int .i64 (k.1 : Int)))] [(200, .row (.ints .i64 (prm k.1)))]) (fun k => 312 - k.1) (fun k => ?_) ⟨2, by omega, by omega⟩
 obtain ⟨k, hk2, hk⟩ := k
 dsimp only
 have hlow := prm_low k
 have hmono := prm_mono (311 - k) k
 have hll : (prm k).length ≤ 64 := by
   have := prm_mono (312 - k) k
   rw [show k + (312 - k) = 312 by omega] at this
   omega
 have hstep : prm (k + 1) = if (prm k).all (fun q => (k : Int) % q != 0) = true then prm k ++ [(k : Int)] else prm k := by
   simp only [prm, hk2, true_and]
 repeat (refine nst ?_)
 refine W_cond rfl (by simp) (fun hq => ?_) (fun hq => ?_)
 · have h64 : (prm k).length < 64 := by simp at hq; omega
   have hk312 : k < 312 := by
     rcases Nat.lt_or_ge k 312 with h | h
     · exact h
     · have : k = 312 := by omega
       subst this; omega
   generalize prm k = l at *
   repeat (refine nst ?_)
   refine W_weaken (St.le_of (l := [(0, lv (.int .i64 64)), (3, .c (.own 200 1 0 l.length)), (4, lv (.int .i64 (k : Int))), (5, lv (.bool true)), (6, lv (.int .i64 0))]) (h := [(200, .row (.ints .i64 l))]) (by refine ⟨?_, ?_⟩ <;> (repeat' (first | exact trivial | exact rfl | refine ⟨?_, ?_⟩)) <;> first | exact rfl | (simp; done) | skip)) ?_
   refine W_loop (ι := {i : Nat // i ≤ l.length}) (fun i => St.of [(0, lv (.int .i64 64)), (3, .c (.own 200 1 0 l.length)), (4, lv (.int .i64 (k : Int))), (5, lv (.bool ((l.take i.1).all (fun q => (k : Int) % q != 0)))), (6, lv (.int .i64 (i.1 : Int)))] [(200, .row (.ints .i64 l))]) (fun i => l.length - i.1) (fun i => ?_) ⟨0, by omega⟩
   obtain ⟨i, hi⟩ := i
   dsimp only
   repeat (refine nst ?_)
   refine W_cond rfl (by simp) (fun hr => ?_) (fun hr => ?_)
   · have hil : i < l.length := by simpa using hr
     have hgi : l.getD (0 + (i : Int).toNat) 0 = l[i] := by simp [hil]
     have hq2 := hlow l[i] (List.getElem_mem hil)
     have htk : (l.take (i + 1)).all (fun q => (k : Int) % q != 0) = ((l.take i).all (fun q => (k : Int) % q != 0) && ((k : Int) % l[i] != 0)) := by
       rw [List.take_succ_eq_append_getElem hil, List.all_append]
       simp
     generalize hqq : l[i] = q at *
     generalize hbb : (l.take i).all (fun q => (k : Int) % q != 0) = bb at *
     cases bb
     · repeat (refine nst ?_)
       refine N_round ⟨i + 1, by omega⟩ (by dsimp only; omega) (St.le_of ⟨⟨rfl, rfl, rfl, ?_, rfl⟩, rfl⟩)
       dsimp only
       rw [htk]
       rfl
     · repeat (refine nst ?_)
       rw [hgi]
       repeat (refine nst ?_)
       refine N_round ⟨i + 1, by omega⟩ (by dsimp only; omega) (St.le_of ⟨⟨rfl, rfl, rfl, ?_, rfl⟩, rfl⟩)
       dsimp only
       rw [htk]
       rfl
   · have hil : i = l.length := by simp at hr; omega
     subst hil
     rw [List.take_length]
     repeat (refine nst ?_)
     refine W_cond rfl (by simp) (fun hu => ?_) (fun hu => ?_)
     · have hall : l.all (fun q => (k : Int) % q != 0) = true := by simpa using hu
       rw [if_pos hall] at hstep
       repeat (refine nst ?_)
       refine s_litI rfl rfl rfl (by rw [hn]; rfl) (elt_mk Tryz.underlying58 rfl rfl) (zok3) (by exact vcs) ⟨by decide, rfl⟩ ?_
       repeat (refine nst ?_)
       refine s_appI rfl rfl rfl rfl rfl rfl (by rw [hn]; rfl) (elt_mk Tryz.underlying58 rfl rfl) rfl rfl rfl rfl (by exact vcs) (by first | rfl | (simp; done) | (simp; omega)) ⟨by first | (simp; done) | (simp; omega) | (simp at *; omega), by decide⟩ ?_
       repeat (refine nst ?_)
       refine N_round ⟨k + 1, by omega, by omega⟩ (by dsimp only; omega) (St.le_of ⟨⟨rfl, ?_, rfl⟩, ?_⟩)
       · dsimp only
         rw [hstep]
         rfl
       · dsimp only
         rw [hstep]
         rfl
     · have hall : ¬ l.all (fun q => (k : Int) % q != 0) = true := by
         intro h
         rw [h] at hu
         cases hu
       rw [if_neg hall] at hstep
       repeat (refine nst ?_)
       refine N_round ⟨k + 1, by omega, by omega⟩ (by dsimp only; omega) (St.le_of ⟨⟨rfl, ?_, rfl⟩, ?_⟩)
       · dsimp only
         rw [hstep]
         rfl
       · dsimp only
         rw [hstep]
         rfl
 · have hk312 : k = 312 := by
     have h64 : ¬ (prm k).length < 64 := by simp at hq; omega
     rcases Nat.lt_or_ge k 312 with h | h
     · rw [show k + (311 - k) = 311 by omega] at hmono
       omega
     · omega
   subst hk312
   repeat (refine nst ?_)
   refine rt2 [200] ?_ ?_
   · rw [hpl.2]; rfl
   · rfl
end Go.Proofs.YtohfhephkjihfaaGreat

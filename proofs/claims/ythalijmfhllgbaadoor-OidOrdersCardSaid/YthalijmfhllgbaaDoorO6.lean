/-
  Chapter 04: a number's digits to the base 128, and an oid's contents. The conditions: numbers that a machine can hold.
-/
import Derived.Test.YthalijmfhllgbaaDoorO5
import Derived.Test.YthalijmfhllgbaaDoorW10
namespace Go.Proofs.YthalijmfhllgbaaDoor
set_option linter.unusedSimpArgs false
set_option linter.unusedVariables false
open Go.Sx

set_option maxRecDepth 10000

theorem andI127 (n : Int) (h : 0 ≤ n ∧ n < 4611686018427387904) : IntKind.i64.wrap (BitVec.ofInt IntKind.i64.bits n &&& BitVec.ofInt IntKind.i64.bits 127).toNat = n % 128 := by
  obtain ⟨n, rfl⟩ : ∃ m : Nat, n = m := ⟨n.toNat, by omega⟩
  have e3 : ((n : Int) % 128) = ((n % 128 : Nat) : Int) := by simp
  rw [e3]
  have hm : n &&& 127 = n % 128 := Nat.and_two_pow_sub_one_eq_mod n 7
  have hlt : n % 128 < 128 := Nat.mod_lt _ (by decide)
  rw [← hm] at hlt ⊢
  have e1 : (BitVec.ofInt IntKind.i64.bits (n : Int)).toNat = n := by
    rw [BitVec.toNat_ofInt]; simp only [IntKind.bits]; omega
  have e2 : (BitVec.ofInt IntKind.i64.bits (127 : Int)).toNat = 127 := by decide
  rw [BitVec.toNat_and, e1, e2]
  generalize n &&& 127 = z at *
  simp only [IntKind.wrap, IntKind.signed, IntKind.bits]
  simp
  omega
theorem or128 : ∀ x : Nat, x < 128 → IntKind.u8.wrap (BitVec.ofInt IntKind.u8.bits (x : Int) ||| BitVec.ofInt IntKind.u8.bits 128).toNat = (x : Int) + 128 := by decide +kernel

/-- The digits behind the last, the lowest first. -/
def arcT : Nat → Nat → List Int
  | 0, _ => []
  | k + 1, n => if n = 0 then [] else (((n % 128 : Nat) : Int) + 128) :: arcT k (n / 128)
def arcL (n : Nat) : List Int := (((n % 128 : Nat) : Int) :: arcT 5 (n / 128)).reverse
theorem arcT_len : ∀ (k n : Nat), (arcT k n).length ≤ k
  | 0, n => by simp [arcT]
  | k + 1, n => by
    have := arcT_len k (n / 128)
    unfold arcT
    split <;> simp <;> omega
theorem arcL_len (n : Nat) : (arcL n).length ≤ 6 := by
  have := arcT_len 5 (n / 128)
  simp [arcL]; omega

structure PS where
  n : Nat
  k : Nat
  d : List Int
theorem put_ok (acc : List Int) (n : Nat) (hn0 : n < 4294967296) (hl : acc.length ≤ 1000000) :
    CtM Tryd.prog 31 [lv (.int .i64 (n : Int)), .c (.ptr 0 0)] [.cells [.own 1 1 0 acc.length], .row (.ints .u8 acc)] (.tup [])
      [.cells [.own 2 1 0 (acc.length + (arcL n).length)], .gone] [.row (.ints .u8 (acc ++ arcL n))] := by
  have ha := andI127 (n : Int) (by omega)
  obtain ⟨A, hA⟩ : ∃ A, arcL n = A := ⟨_, rfl⟩
  have hAl : A.length ≤ 6 := by rw [← hA]; exact arcL_len n
  rw [hA]
  refine CtM_intro Tryd.func31 rfl rfl rfl rfl rfl (fun E hn hb => ?_)
  repeat (first | refine stp ?_ | refine N_block_pass rfl ?_ | refine sp1 ?_ | refine sg1 ?_ | refine WL_nil ?_)
  have e1 : (n : Int) % 128 = ((n % 128 : Nat) : Int) := by omega
  rw [ha, e1]
  refine s_litI rfl rfl rfl (by rw [hn]; rfl) (elt_mk Tryd.underlying28 rfl rfl) (zok5) (by first | trivial | (simp; done) | (simp; omega) | (simp at *; done) | (simp at *; omega)) ⟨by decide, rfl⟩ ?_
  repeat (first | refine stp ?_ | refine N_block_pass rfl ?_ | refine sp1 ?_ | refine sg1 ?_ | refine WL_nil ?_)
  have e9 : (n : Int) / 2 ^ min (Int.toNat 7) IntKind.i64.bits = ((n / 128 : Nat) : Int) := by
    have : min (Int.toNat 7) IntKind.i64.bits = 7 := by decide
    rw [this]
    omega
  rw [e9]
  refine W_weaken (St.le_of (l := [(0, lv (.int .i64 ((n / 128 : Nat) : Int))), (1, .c (.ptr 0 0)), (3, .c (.own 71 1 0 [((n % 128 : Nat) : Int)].length))]) (h := [(0, .cells [.own 1 1 0 acc.length]), (1, .row (.ints .u8 acc)), (71, .row (.ints .u8 [((n % 128 : Nat) : Int)]))]) (by refine ⟨?_, ?_⟩ <;> (repeat' (first | exact trivial | exact rfl | refine ⟨?_, ?_⟩)) <;> first | exact rfl | (simp; done) | skip)) ?_
  refine W_loop (ι := {s : PS // (s.d ++ arcT s.k s.n).reverse = A ∧ s.n < 128 ^ s.k ∧ s.n < 4294967296 ∧ s.d.length ≤ 6}) (fun s => St.of [(0, lv (.int .i64 (s.1.n : Int))), (1, .c (.ptr 0 0)), (3, .c (.own 71 1 0 s.1.d.length))] [(0, .cells [.own 1 1 0 acc.length]), (1, .row (.ints .u8 acc)), (71, .row (.ints .u8 s.1.d))]) (fun s => s.1.k) (fun s => ?_) ⟨⟨n / 128, 5, [((n % 128 : Nat) : Int)]⟩, hA, by dsimp only; omega, by dsimp only; omega, by simp⟩
  obtain ⟨⟨n, k, d⟩, h1, h2, h3, h4⟩ := s
  dsimp only at h1 h2 h3 h4 ⊢
  clear ha e1 e9 hn0 hA
  repeat (first | refine stp ?_ | refine N_block_pass rfl ?_ | refine sp1 ?_ | refine sg1 ?_ | refine WL_nil ?_)
  refine W_cond rfl (by simp) (fun hc => ?_) (fun hc => ?_)
  · have hnp : 0 < n := by simpa using hc
    obtain ⟨k, rfl⟩ : ∃ k', k = k' + 1 := by
      cases k with
      | zero => simp at h2; omega
      | succ k => exact ⟨k, rfl⟩
    unfold arcT at h1
    rw [if_neg (by omega)] at h1
    have ha := andI127 (n : Int) (by omega)
    have e1 : (n : Int) % 128 = ((n % 128 : Nat) : Int) := by omega
    have ho := or128 (n % 128) (Nat.mod_lt _ (by decide))
    repeat (first | refine stp ?_ | refine N_block_pass rfl ?_ | refine sp1 ?_ | refine sg1 ?_ | refine WL_nil ?_)
    rw [ha, e1]
    repeat (first | refine stp ?_ | refine N_block_pass rfl ?_ | refine sp1 ?_ | refine sg1 ?_ | refine WL_nil ?_)
    rw [ho]
    have h5 : ((d ++ [((n % 128 : Nat) : Int) + 128]) ++ arcT k (n / 128)).reverse = A := by rw [List.append_assoc]; exact h1
    have h6 : (d ++ [((n % 128 : Nat) : Int) + 128]).length ≤ 6 := by
      have := congrArg List.length h5
      simp at this ⊢
      omega
    have h7 : n / 128 < 128 ^ k := by
      rw [Nat.pow_succ] at h2
      exact Nat.div_lt_of_lt_mul (by rw [Nat.mul_comm]; exact h2)
    have e9 : (n : Int) / 2 ^ min (Int.toNat 7) IntKind.i64.bits = ((n / 128 : Nat) : Int) := by
      have : min (Int.toNat 7) IntKind.i64.bits = 7 := by decide
      rw [this]
      omega
    refine s_litI rfl rfl rfl (by rw [hn]; rfl) (elt_mk Tryd.underlying28 rfl rfl) (zok5) (by first | trivial | (simp; done) | (simp; omega) | (simp at *; done) | (simp at *; omega)) ⟨by decide, rfl⟩ ?_
    repeat (first | refine stp ?_ | refine N_block_pass rfl ?_ | refine sp1 ?_ | refine sg1 ?_ | refine WL_nil ?_)
    refine s_appI rfl rfl rfl rfl rfl rfl (by rw [hn]; rfl) (elt_mk Tryd.underlying28 rfl rfl) rfl rfl rfl rfl (by first | trivial | (simp; done) | (simp; omega) | (simp at *; done) | (simp at *; omega)) (by first | rfl | (simp; done) | (simp; omega)) ⟨by first | (simp; done) | (simp; omega) | (simp at *; omega), by decide⟩ ?_
    repeat (first | refine stp ?_ | refine N_block_pass rfl ?_ | refine sp1 ?_ | refine sg1 ?_ | refine WL_nil ?_)
    rw [e9]
    (refine N_round ?i1 ?i2 ?i3; (case i1 => exact ⟨⟨n / 128, k, d ++ [((n % 128 : Nat) : Int) + 128]⟩, h5, h7, by dsimp only; omega, h6⟩); (case i2 => (dsimp only; omega)); (case i3 => refine St.le_of ⟨?_, ?_⟩ <;> (repeat' (first | exact trivial | exact rfl | refine ⟨?_, ?_⟩)) <;> first | exact rfl | (simp; done) | skip))
  · have hn0 : n = 0 := by simp at hc; omega
    subst hn0
    have e1 : arcT k 0 = [] := by cases k <;> rfl
    rw [e1, List.append_nil] at h1
    have hrv := reverse_ok d (by omega)
    have hdl : d.length = A.length := by rw [← h1]; simp
    rw [h1, hdl] at hrv
    rw [hdl]
    repeat (first | refine stp ?_ | refine N_block_pass rfl ?_ | refine sp1 ?_ | refine sg1 ?_ | refine WL_nil ?_)
    refine s_call [71] hrv rfl rfl (by rw [hn]; rfl) rfl rfl (by trivial) ⟨rfl, rfl, (by simp [ordL]), rfl⟩ ?_
    repeat (first | refine stp ?_ | refine N_block_pass rfl ?_ | refine sp1 ?_ | refine sg1 ?_ | refine WL_nil ?_)
    refine s_appendK 95 rfl rfl rfl rfl rfl (by rw [hn]; rfl) (elt_mk Tryd.underlying28 rfl rfl) rfl rfl rfl rfl ?_ (by simp) ⟨by simp; omega, by decide⟩ ?_ ?_
    · simp [AllP]
    · repeat (first | refine stp ?_ | refine N_block_pass rfl ?_ | refine sp1 ?_ | refine sg1 ?_ | refine WL_nil ?_)
      refine s_storeN rfl rfl rfl rfl rfl (by first | trivial | (simp; done) | (simp; omega) | (simp at *; done) | (simp at *; omega)) rfl rfl rfl (by rw [cellsOf28]; rfl) (by rw [info28]; rfl) rfl rfl ?_
      rw [List.take_length, Nat.zero_add acc.length, List.take_length]
      repeat (first | refine stp ?_ | refine N_block_pass rfl ?_ | refine sp1 ?_ | refine sg1 ?_ | refine WL_nil ?_)
      exact N_endM [1] rfl (by trivial) ⟨rfl, ⟨.inr rfl, .inl rfl⟩, rfl, rfl⟩ hb rfl
    · repeat (first | refine stp ?_ | refine N_block_pass rfl ?_ | refine sp1 ?_ | refine sg1 ?_ | refine WL_nil ?_)
      refine s_storeN rfl rfl rfl rfl rfl (by first | trivial | (simp; done) | (simp; omega) | (simp at *; done) | (simp at *; omega)) rfl rfl rfl (by rw [cellsOf28]; rfl) (by rw [info28]; rfl) rfl rfl ?_
      rw [List.take_length, Nat.zero_add acc.length, List.take_length, List.drop_zero]
      repeat (first | refine stp ?_ | refine N_block_pass rfl ?_ | refine sp1 ?_ | refine sg1 ?_ | refine WL_nil ?_)
      exact N_endM [95] rfl (by trivial) ⟨rfl, ⟨.inr rfl, .inl rfl⟩, rfl, rfl⟩ hb rfl
end Go.Proofs.YthalijmfhllgbaaDoor

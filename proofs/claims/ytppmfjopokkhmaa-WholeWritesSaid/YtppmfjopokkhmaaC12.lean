/-
  Chapter 02: digits to a base that is a power of two. The conditions: numbers that a machine can hold.
-/
import Derived.Test.YtppmfjopokkhmaaC7
import Derived.Test.YtppmfjopokkhmaaSxN
import Derived.Test.YtppmfjopokkhmaaW10
namespace Go.Proofs.Ytppmfjopokkhmaa
set_option linter.unusedSimpArgs false
set_option linter.unusedVariables false
open Go.Sx

set_option maxRecDepth 10000

theorem and_mod (s : Nat) (hs : s ≤ 8) (n : Int) (h : 0 ≤ n ∧ n < 4611686018427387904) : IntKind.i64.wrap (BitVec.ofInt IntKind.i64.bits n &&& BitVec.ofInt IntKind.i64.bits (2 ^ s - 1)).toNat = n % 2 ^ s := by
  obtain ⟨n, rfl⟩ : ∃ m : Nat, n = m := ⟨n.toNat, by omega⟩
  have hp : (2 : Nat) ^ s ≤ 256 := Nat.pow_le_pow_right (by decide) hs
  have hp1 : 0 < (2 : Nat) ^ s := Nat.pow_pos (by decide)
  have e0 : (2 : Int) ^ s - 1 = ((2 ^ s - 1 : Nat) : Int) := by
    have : ((2 ^ s : Nat) : Int) = (2 : Int) ^ s := by simp
    omega
  have e3 : ((n : Int) % 2 ^ s) = ((n % 2 ^ s : Nat) : Int) := by simp
  rw [e0, e3]
  have hm := Nat.and_two_pow_sub_one_eq_mod n s
  have hlt : n % 2 ^ s < 256 := Nat.lt_of_lt_of_le (Nat.mod_lt _ hp1) hp
  rw [← hm] at hlt ⊢
  have e1 : (BitVec.ofInt IntKind.i64.bits (n : Int)).toNat = n := by
    rw [BitVec.toNat_ofInt]; simp only [IntKind.bits]; omega
  have e2 : (BitVec.ofInt IntKind.i64.bits ((2 ^ s - 1 : Nat) : Int)).toNat = 2 ^ s - 1 := by
    rw [BitVec.toNat_ofInt]; simp only [IntKind.bits]; omega
  rw [BitVec.toNat_and, e1, e2]
  generalize n &&& (2 ^ s - 1) = z at *
  simp only [IntKind.wrap, IntKind.signed, IntKind.bits]
  simp
  omega
abbrev iB (n : Int) : Blk := .cells [.lf (.v (.int .i64 n))]

theorem digit7_ok (acc : List Int) (n : Int) (hn0 : 0 ≤ n ∧ n < 4611686018427387904) (hl : acc.length ≤ 1000) :
    CtM Try.prog 132 [.c (.ptr 0 0), .c (.ptr 1 0), .c (.ptr 2 0)] [.cells [.own 3 1 0 acc.length], iB n, iB 7, .row (.ints .u8 acc)] (.tup [])
      [.cells [.own 4 1 0 (acc.length + 1)], iB n, iB 7, .gone] [.row (.ints .u8 (acc ++ [n % 128]))] := by
  have ha : IntKind.i64.wrap (BitVec.ofInt IntKind.i64.bits n &&& BitVec.ofInt IntKind.i64.bits (1 * 2 ^ min (Int.toNat 7) IntKind.i64.bits - 1)).toNat = n % 128 := and_mod 7 (by decide) n hn0
  refine CtM_intro Try.func132 rfl rfl rfl rfl rfl (fun E hn hb => ?_)
  repeat (first | refine W_seq ?_ | refine W_region ?_ | refine W_block ?_ | refine W_skip ?_ | refine W_ret ?_ | refine W_exit ?_ | refine WL_nil ?_ | refine N_then ?_ | refine N_then_exit ?_ | refine N_then_ret ?_ | refine N_block ?_ | refine N_block_ret ?_ | refine N_block_exit ?_ | refine N_block_pass rfl ?_ | refine W_scope ?_ | refine W_label ?_ | refine N_scope ?_ | refine N_scope_ret ?_ | refine N_scope_exit ?_ | refine sp true rfl rfl (by rw [hn]; rfl) (by first | trivial | (simp; done) | (simp; omega) | (simp at *; done) | (simp at *; omega)) ?_ | refine sg true rfl rfl rfl (by rw [hn]; rfl) (by intro hG; first | trivial | (simp; done) | (simp; omega) | (simp at *; done) | (simp at *; omega)) ?_)
  refine W_drawW 8 (by kernel_rfl) (by kernel_rfl) (by kernel_rfl) (by rw [hn]; rfl) rfl rfl ?_
  repeat (first | refine DrawW_cons rfl (ops_pure true rfl rfl (by first | trivial | (simp; done) | (simp; omega) | (simp at *; done) | (simp at *; omega))) ?_ | refine DrawW_cons rfl (ops_pureG true rfl rfl rfl (by intro hG; first | trivial | (simp; done) | (simp; omega) | (simp at *; done) | (simp at *; omega))) ?_ | refine DrawW_nil ?_)
  rw [ha]
  refine DrawW_cons rfl (ops_of (opys_lit (d := (.ints .u8 [n % 128])) rfl (elt_mk Try.underlying22 rfl rfl) zok5 rfl (by first | trivial | (simp; done) | (simp; omega) | (simp at *; done) | (simp at *; omega)) rfl ⟨by decide, by decide, rfl, rfl⟩) rfl) ?_
  repeat (first | refine DrawW_cons rfl (ops_pure true rfl rfl (by first | trivial | (simp; done) | (simp; omega) | (simp at *; done) | (simp at *; omega))) ?_ | refine DrawW_cons rfl (ops_pureG true rfl rfl rfl (by intro hG; first | trivial | (simp; done) | (simp; omega) | (simp at *; done) | (simp at *; omega))) ?_ | refine DrawW_nil ?_)
  repeat (first | refine W_seq ?_ | refine W_region ?_ | refine W_block ?_ | refine W_skip ?_ | refine W_ret ?_ | refine W_exit ?_ | refine WL_nil ?_ | refine N_then ?_ | refine N_then_exit ?_ | refine N_then_ret ?_ | refine N_block ?_ | refine N_block_ret ?_ | refine N_block_exit ?_ | refine N_block_pass rfl ?_ | refine W_scope ?_ | refine W_label ?_ | refine N_scope ?_ | refine N_scope_ret ?_ | refine N_scope_exit ?_ | refine sp true rfl rfl (by rw [hn]; rfl) (by first | trivial | (simp; done) | (simp; omega) | (simp at *; done) | (simp at *; omega)) ?_ | refine sg true rfl rfl rfl (by rw [hn]; rfl) (by intro hG; first | trivial | (simp; done) | (simp; omega) | (simp at *; done) | (simp at *; omega)) ?_)
  refine s_appendK 95 rfl rfl rfl rfl rfl (by rw [hn]; rfl) (elt_mk Try.underlying22 rfl rfl) rfl rfl rfl rfl ?_ (by simp) ⟨by simp; omega, by decide⟩ ?_ ?_
  · trivial
  · repeat (first | refine W_seq ?_ | refine W_region ?_ | refine W_block ?_ | refine W_skip ?_ | refine W_ret ?_ | refine W_exit ?_ | refine WL_nil ?_ | refine N_then ?_ | refine N_then_exit ?_ | refine N_then_ret ?_ | refine N_block ?_ | refine N_block_ret ?_ | refine N_block_exit ?_ | refine N_block_pass rfl ?_ | refine W_scope ?_ | refine W_label ?_ | refine N_scope ?_ | refine N_scope_ret ?_ | refine N_scope_exit ?_ | refine sp true rfl rfl (by rw [hn]; rfl) (by first | trivial | (simp; done) | (simp; omega) | (simp at *; done) | (simp at *; omega)) ?_ | refine sg true rfl rfl rfl (by rw [hn]; rfl) (by intro hG; first | trivial | (simp; done) | (simp; omega) | (simp at *; done) | (simp at *; omega)) ?_)
    refine s_storeN rfl rfl rfl rfl rfl (by first | trivial | (simp; done) | (simp; omega) | (simp at *; done) | (simp at *; omega)) rfl rfl rfl (by rw [cellsOf22]; rfl) (by rw [info22]; rfl) rfl rfl ?_
    rw [Nat.zero_add, List.take_length]
    repeat (first | refine W_seq ?_ | refine W_region ?_ | refine W_block ?_ | refine W_skip ?_ | refine W_ret ?_ | refine W_exit ?_ | refine WL_nil ?_ | refine N_then ?_ | refine N_then_exit ?_ | refine N_then_ret ?_ | refine N_block ?_ | refine N_block_ret ?_ | refine N_block_exit ?_ | refine N_block_pass rfl ?_ | refine W_scope ?_ | refine W_label ?_ | refine N_scope ?_ | refine N_scope_ret ?_ | refine N_scope_exit ?_ | refine sp true rfl rfl (by rw [hn]; rfl) (by first | trivial | (simp; done) | (simp; omega) | (simp at *; done) | (simp at *; omega)) ?_ | refine sg true rfl rfl rfl (by rw [hn]; rfl) (by intro hG; first | trivial | (simp; done) | (simp; omega) | (simp at *; done) | (simp at *; omega)) ?_)
    exact N_endM [3] rfl (by trivial) ⟨rfl, ⟨.inr rfl, .inr rfl, .inr rfl, .inl rfl⟩, rfl, rfl⟩ hb rfl
  · repeat (first | refine W_seq ?_ | refine W_region ?_ | refine W_block ?_ | refine W_skip ?_ | refine W_ret ?_ | refine W_exit ?_ | refine WL_nil ?_ | refine N_then ?_ | refine N_then_exit ?_ | refine N_then_ret ?_ | refine N_block ?_ | refine N_block_ret ?_ | refine N_block_exit ?_ | refine N_block_pass rfl ?_ | refine W_scope ?_ | refine W_label ?_ | refine N_scope ?_ | refine N_scope_ret ?_ | refine N_scope_exit ?_ | refine sp true rfl rfl (by rw [hn]; rfl) (by first | trivial | (simp; done) | (simp; omega) | (simp at *; done) | (simp at *; omega)) ?_ | refine sg true rfl rfl rfl (by rw [hn]; rfl) (by intro hG; first | trivial | (simp; done) | (simp; omega) | (simp at *; done) | (simp at *; omega)) ?_)
    refine s_storeN rfl rfl rfl rfl rfl (by first | trivial | (simp; done) | (simp; omega) | (simp at *; done) | (simp at *; omega)) rfl rfl rfl (by rw [cellsOf22]; rfl) (by rw [info22]; rfl) rfl rfl ?_
    rw [Nat.zero_add, List.take_length, List.drop_zero]
    repeat (first | refine W_seq ?_ | refine W_region ?_ | refine W_block ?_ | refine W_skip ?_ | refine W_ret ?_ | refine W_exit ?_ | refine WL_nil ?_ | refine N_then ?_ | refine N_then_exit ?_ | refine N_then_ret ?_ | refine N_block ?_ | refine N_block_ret ?_ | refine N_block_exit ?_ | refine N_block_pass rfl ?_ | refine W_scope ?_ | refine W_label ?_ | refine N_scope ?_ | refine N_scope_ret ?_ | refine N_scope_exit ?_ | refine sp true rfl rfl (by rw [hn]; rfl) (by first | trivial | (simp; done) | (simp; omega) | (simp at *; done) | (simp at *; omega)) ?_ | refine sg true rfl rfl rfl (by rw [hn]; rfl) (by intro hG; first | trivial | (simp; done) | (simp; omega) | (simp at *; done) | (simp at *; omega)) ?_)
    exact N_endM [95] rfl (by trivial) ⟨rfl, ⟨.inr rfl, .inr rfl, .inr rfl, .inl rfl⟩, rfl, rfl⟩ hb rfl
theorem digit8_ok (acc : List Int) (n : Int) (hn0 : 0 ≤ n ∧ n < 4611686018427387904) (hl : acc.length ≤ 1000) :
    CtM Try.prog 132 [.c (.ptr 0 0), .c (.ptr 1 0), .c (.ptr 2 0)] [.cells [.own 3 1 0 acc.length], iB n, iB 8, .row (.ints .u8 acc)] (.tup [])
      [.cells [.own 4 1 0 (acc.length + 1)], iB n, iB 8, .gone] [.row (.ints .u8 (acc ++ [n % 256]))] := by
  have ha : IntKind.i64.wrap (BitVec.ofInt IntKind.i64.bits n &&& BitVec.ofInt IntKind.i64.bits (1 * 2 ^ min (Int.toNat 8) IntKind.i64.bits - 1)).toNat = n % 256 := and_mod 8 (by decide) n hn0
  refine CtM_intro Try.func132 rfl rfl rfl rfl rfl (fun E hn hb => ?_)
  repeat (first | refine W_seq ?_ | refine W_region ?_ | refine W_block ?_ | refine W_skip ?_ | refine W_ret ?_ | refine W_exit ?_ | refine WL_nil ?_ | refine N_then ?_ | refine N_then_exit ?_ | refine N_then_ret ?_ | refine N_block ?_ | refine N_block_ret ?_ | refine N_block_exit ?_ | refine N_block_pass rfl ?_ | refine W_scope ?_ | refine W_label ?_ | refine N_scope ?_ | refine N_scope_ret ?_ | refine N_scope_exit ?_ | refine sp true rfl rfl (by rw [hn]; rfl) (by first | trivial | (simp; done) | (simp; omega) | (simp at *; done) | (simp at *; omega)) ?_ | refine sg true rfl rfl rfl (by rw [hn]; rfl) (by intro hG; first | trivial | (simp; done) | (simp; omega) | (simp at *; done) | (simp at *; omega)) ?_)
  refine W_drawW 8 (by kernel_rfl) (by kernel_rfl) (by kernel_rfl) (by rw [hn]; rfl) rfl rfl ?_
  repeat (first | refine DrawW_cons rfl (ops_pure true rfl rfl (by first | trivial | (simp; done) | (simp; omega) | (simp at *; done) | (simp at *; omega))) ?_ | refine DrawW_cons rfl (ops_pureG true rfl rfl rfl (by intro hG; first | trivial | (simp; done) | (simp; omega) | (simp at *; done) | (simp at *; omega))) ?_ | refine DrawW_nil ?_)
  rw [ha]
  refine DrawW_cons rfl (ops_of (opys_lit (d := (.ints .u8 [n % 256])) rfl (elt_mk Try.underlying22 rfl rfl) zok5 rfl (by first | trivial | (simp; done) | (simp; omega) | (simp at *; done) | (simp at *; omega)) rfl ⟨by decide, by decide, rfl, rfl⟩) rfl) ?_
  repeat (first | refine DrawW_cons rfl (ops_pure true rfl rfl (by first | trivial | (simp; done) | (simp; omega) | (simp at *; done) | (simp at *; omega))) ?_ | refine DrawW_cons rfl (ops_pureG true rfl rfl rfl (by intro hG; first | trivial | (simp; done) | (simp; omega) | (simp at *; done) | (simp at *; omega))) ?_ | refine DrawW_nil ?_)
  repeat (first | refine W_seq ?_ | refine W_region ?_ | refine W_block ?_ | refine W_skip ?_ | refine W_ret ?_ | refine W_exit ?_ | refine WL_nil ?_ | refine N_then ?_ | refine N_then_exit ?_ | refine N_then_ret ?_ | refine N_block ?_ | refine N_block_ret ?_ | refine N_block_exit ?_ | refine N_block_pass rfl ?_ | refine W_scope ?_ | refine W_label ?_ | refine N_scope ?_ | refine N_scope_ret ?_ | refine N_scope_exit ?_ | refine sp true rfl rfl (by rw [hn]; rfl) (by first | trivial | (simp; done) | (simp; omega) | (simp at *; done) | (simp at *; omega)) ?_ | refine sg true rfl rfl rfl (by rw [hn]; rfl) (by intro hG; first | trivial | (simp; done) | (simp; omega) | (simp at *; done) | (simp at *; omega)) ?_)
  refine s_appendK 95 rfl rfl rfl rfl rfl (by rw [hn]; rfl) (elt_mk Try.underlying22 rfl rfl) rfl rfl rfl rfl ?_ (by simp) ⟨by simp; omega, by decide⟩ ?_ ?_
  · trivial
  · repeat (first | refine W_seq ?_ | refine W_region ?_ | refine W_block ?_ | refine W_skip ?_ | refine W_ret ?_ | refine W_exit ?_ | refine WL_nil ?_ | refine N_then ?_ | refine N_then_exit ?_ | refine N_then_ret ?_ | refine N_block ?_ | refine N_block_ret ?_ | refine N_block_exit ?_ | refine N_block_pass rfl ?_ | refine W_scope ?_ | refine W_label ?_ | refine N_scope ?_ | refine N_scope_ret ?_ | refine N_scope_exit ?_ | refine sp true rfl rfl (by rw [hn]; rfl) (by first | trivial | (simp; done) | (simp; omega) | (simp at *; done) | (simp at *; omega)) ?_ | refine sg true rfl rfl rfl (by rw [hn]; rfl) (by intro hG; first | trivial | (simp; done) | (simp; omega) | (simp at *; done) | (simp at *; omega)) ?_)
    refine s_storeN rfl rfl rfl rfl rfl (by first | trivial | (simp; done) | (simp; omega) | (simp at *; done) | (simp at *; omega)) rfl rfl rfl (by rw [cellsOf22]; rfl) (by rw [info22]; rfl) rfl rfl ?_
    rw [Nat.zero_add, List.take_length]
    repeat (first | refine W_seq ?_ | refine W_region ?_ | refine W_block ?_ | refine W_skip ?_ | refine W_ret ?_ | refine W_exit ?_ | refine WL_nil ?_ | refine N_then ?_ | refine N_then_exit ?_ | refine N_then_ret ?_ | refine N_block ?_ | refine N_block_ret ?_ | refine N_block_exit ?_ | refine N_block_pass rfl ?_ | refine W_scope ?_ | refine W_label ?_ | refine N_scope ?_ | refine N_scope_ret ?_ | refine N_scope_exit ?_ | refine sp true rfl rfl (by rw [hn]; rfl) (by first | trivial | (simp; done) | (simp; omega) | (simp at *; done) | (simp at *; omega)) ?_ | refine sg true rfl rfl rfl (by rw [hn]; rfl) (by intro hG; first | trivial | (simp; done) | (simp; omega) | (simp at *; done) | (simp at *; omega)) ?_)
    exact N_endM [3] rfl (by trivial) ⟨rfl, ⟨.inr rfl, .inr rfl, .inr rfl, .inl rfl⟩, rfl, rfl⟩ hb rfl
  · repeat (first | refine W_seq ?_ | refine W_region ?_ | refine W_block ?_ | refine W_skip ?_ | refine W_ret ?_ | refine W_exit ?_ | refine WL_nil ?_ | refine N_then ?_ | refine N_then_exit ?_ | refine N_then_ret ?_ | refine N_block ?_ | refine N_block_ret ?_ | refine N_block_exit ?_ | refine N_block_pass rfl ?_ | refine W_scope ?_ | refine W_label ?_ | refine N_scope ?_ | refine N_scope_ret ?_ | refine N_scope_exit ?_ | refine sp true rfl rfl (by rw [hn]; rfl) (by first | trivial | (simp; done) | (simp; omega) | (simp at *; done) | (simp at *; omega)) ?_ | refine sg true rfl rfl rfl (by rw [hn]; rfl) (by intro hG; first | trivial | (simp; done) | (simp; omega) | (simp at *; done) | (simp at *; omega)) ?_)
    refine s_storeN rfl rfl rfl rfl rfl (by first | trivial | (simp; done) | (simp; omega) | (simp at *; done) | (simp at *; omega)) rfl rfl rfl (by rw [cellsOf22]; rfl) (by rw [info22]; rfl) rfl rfl ?_
    rw [Nat.zero_add, List.take_length, List.drop_zero]
    repeat (first | refine W_seq ?_ | refine W_region ?_ | refine W_block ?_ | refine W_skip ?_ | refine W_ret ?_ | refine W_exit ?_ | refine WL_nil ?_ | refine N_then ?_ | refine N_then_exit ?_ | refine N_then_ret ?_ | refine N_block ?_ | refine N_block_ret ?_ | refine N_block_exit ?_ | refine N_block_pass rfl ?_ | refine W_scope ?_ | refine W_label ?_ | refine N_scope ?_ | refine N_scope_ret ?_ | refine N_scope_exit ?_ | refine sp true rfl rfl (by rw [hn]; rfl) (by first | trivial | (simp; done) | (simp; omega) | (simp at *; done) | (simp at *; omega)) ?_ | refine sg true rfl rfl rfl (by rw [hn]; rfl) (by intro hG; first | trivial | (simp; done) | (simp; omega) | (simp at *; done) | (simp at *; omega)) ?_)
    exact N_endM [95] rfl (by trivial) ⟨rfl, ⟨.inr rfl, .inr rfl, .inr rfl, .inl rfl⟩, rfl, rfl⟩ hb rfl
end Go.Proofs.Ytppmfjopokkhmaa

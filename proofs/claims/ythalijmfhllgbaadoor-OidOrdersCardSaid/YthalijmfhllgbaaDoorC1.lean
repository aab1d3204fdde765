/-
  Chapter 01: cursors that are only looked at. The conditions: rows of bytes that a machine can hold.
-/
import Derived.Test.YthalijmfhllgbaaDoorTy
import Derived.Test.YthalijmfhllgbaaDoorSxC
namespace Go.Proofs.YthalijmfhllgbaaDoor
set_option linter.unusedSimpArgs false
set_option linter.unusedVariables false
open Go.Sx

set_option maxRecDepth 10000

abbrev curL (l : List Int) (p : Nat) : List Leaf := [.ints .u8 l, .v (.int .i64 (p : Int))]
abbrev curD (l : List Int) (p : Nat) : Av := .c (.lf (.obj (curL l p)))
abbrev curB (l : List Int) (p : Nat) : Blk := .cells [.lf (.ints .u8 l), .lf (.v (.int .i64 (p : Int)))]

theorem size_ok (l : List Int) (p : Nat) : Ct Tryd.prog 66 [curD l p] [] (lv (.int .i64 (l.length : Int))) [] [] := by
  refine Ct_intro Tryd.func66 rfl rfl rfl rfl rfl (fun E hn hb => ?_)
  repeat (first | refine stp ?_ | refine N_block_pass rfl ?_ | refine sp1 ?_ | refine sg1 ?_ | refine WL_nil ?_)
  exact rt1 []
theorem left_ok (l : List Int) (p : Nat) (hp : p ≤ l.length) (hl : l.length ≤ 9223372036854775807) : Ct Tryd.prog 50 [curD l p] [] (lv (.int .i64 ((l.length : Int) - (p : Int)))) [] [] := by
  have e : IntKind.i64.wrap ((l.length : Int) - (p : Int)) = (l.length : Int) - (p : Int) := by simp [IntKind.wrap, IntKind.signed, IntKind.bits]; omega
  refine Ct_intro Tryd.func50 rfl rfl rfl rfl rfl (fun E hn hb => ?_)
  repeat (first | refine stp ?_ | refine N_block_pass rfl ?_ | refine sp1 ?_ | refine sg1 ?_ | refine WL_nil ?_)
  refine WL_q (opq_of (opy_nilP (neg := false) rfl rfl rfl rfl (by first | trivial | (simp; done) | (simp; omega) | (simp at *; done) | (simp at *; omega))) rfl) (by rw [hn]; rfl) ?_
  repeat (first | refine stp ?_ | refine N_block_pass rfl ?_ | refine sp1 ?_ | refine sg1 ?_ | refine WL_nil ?_)
  refine W_cond rfl (by simp) (fun h1 => ?_) (fun h1 => ?_)
  · simp at h1
  repeat (first | refine stp ?_ | refine N_block_pass rfl ?_ | refine sp1 ?_ | refine sg1 ?_ | refine WL_nil ?_)
  refine W_drawP (by kernel_rfl) (by kernel_rfl) (by rw [hn]; rfl) ?_
  repeat (first | refine dp1 ?_ | refine dg1 ?_ | refine DrawW_nil ?_)
  refine DrawW_cons rfl (ops_of (opys_call (size_ok l p) rfl rfl rfl (by first | trivial | (simp; done) | (simp; omega) | (simp at *; done) | (simp at *; omega)) rfl rfl rfl) rfl) ?_
  repeat (first | refine dp1 ?_ | refine dg1 ?_ | refine DrawW_nil ?_)
  repeat (first | refine stp ?_ | refine N_block_pass rfl ?_ | refine sp1 ?_ | refine sg1 ?_ | refine WL_nil ?_)
  exact rt1 []
theorem peek_ok (l : List Int) (p : Nat) (hp : p < l.length) (hl : l.length ≤ 9223372036854775807) : Ct Tryd.prog 81 [curD l p] [] (.tup [lv (.int .u8 (l.getD p 0)), lv (.int .i64 0)]) [] [] := by
  refine Ct_intro Tryd.func81 rfl rfl rfl rfl rfl (fun E hn hb => ?_)
  repeat (first | refine stp ?_ | refine N_block_pass rfl ?_ | refine sp1 ?_ | refine sg1 ?_ | refine WL_nil ?_)
  refine WL_q (opq_of (opy_nilP (neg := false) rfl rfl rfl rfl (by first | trivial | (simp; done) | (simp; omega) | (simp at *; done) | (simp at *; omega))) rfl) (by rw [hn]; rfl) ?_
  repeat (first | refine stp ?_ | refine N_block_pass rfl ?_ | refine sp1 ?_ | refine sg1 ?_ | refine WL_nil ?_)
  refine W_cond rfl (by simp) (fun h1 => ?_) (fun h1 => ?_)
  · simp at h1
  repeat (first | refine stp ?_ | refine N_block_pass rfl ?_ | refine sp1 ?_ | refine sg1 ?_ | refine WL_nil ?_)
  refine s_call0 (left_ok l p (by omega) hl) rfl rfl rfl (by rw [hn]; rfl) rfl rfl (by first | trivial | (simp; done) | (simp; omega) | (simp at *; done) | (simp at *; omega)) rfl rfl rfl ?_
  repeat (first | refine stp ?_ | refine N_block_pass rfl ?_ | refine sp1 ?_ | refine sg1 ?_ | refine WL_nil ?_)
  refine W_cond rfl (by simp) (fun h3 => ?_) (fun h3 => ?_)
  · simp at h3; omega
  repeat (first | refine stp ?_ | refine N_block_pass rfl ?_ | refine sp1 ?_ | refine sg1 ?_ | refine WL_nil ?_)
  refine W_drawW 13 (by kernel_rfl) (by kernel_rfl) (by kernel_rfl) (by rw [hn]; rfl) rfl rfl ?_
  repeat (first | refine dp1 ?_ | refine dg1 ?_ | refine DrawW_nil ?_)
  repeat (first | refine stp ?_ | refine N_block_pass rfl ?_ | refine sp1 ?_ | refine sg1 ?_ | refine WL_nil ?_)
  refine rt2 [] ?_ ?_
  · show Av.tup [lv (.int .u8 (l.getD (p : Int).toNat 0)), lv (.int .i64 0)] = _
    rw [Int.toNat_natCast]
    rfl
  · trivial
end Go.Proofs.YthalijmfhllgbaaDoor

/-
  A row turned about, in place. The conditions: rows of at most a million bytes.
-/
import Derived.Test.YthalijmfhllgbaaTy
import Derived.Test.YthalijmfhllgbaaSxC
import Derived.Test.YthalijmfhllgbaaB1
import Derived.Test.YthalijmfhllgbaaSxX
namespace Go.Proofs.Ythalijmfhllgbaa
set_option linter.unusedSimpArgs false
set_option linter.unusedVariables false
open Go.Sx

set_option maxRecDepth 10000

abbrev curL (l : List Int) (p : Nat) : List Leaf := [.ints .u8 l, .v (.int .i64 (p : Int))]
abbrev curD (l : List Int) (p : Nat) : Av := .c (.lf (.obj (curL l p)))
abbrev curB (l : List Int) (p : Nat) : Blk := .cells [.lf (.ints .u8 l), .lf (.v (.int .i64 (p : Int)))]

theorem size_ok (l : List Int) (p : Nat) : Ct Try.prog 138 [curD l p] [] (lv (.int .i64 (l.length : Int))) [] [] := by
  refine Ct_intro Try.func138 rfl rfl rfl rfl rfl (fun E hn hb => ?_)
  repeat (first | refine stp ?_ | refine N_block_pass rfl ?_ | refine sp1 ?_ | refine sg1 ?_ | refine WL_nil ?_)
  exact rt1 []
theorem at_ok (l : List Int) (p : Nat) : Ct Try.prog 50 [curD l p] [] (lv (.int .i64 (p : Int))) [] [] := by
  refine Ct_intro Try.func50 rfl rfl rfl rfl rfl (fun E hn hb => ?_)
  repeat (first | refine stp ?_ | refine N_block_pass rfl ?_ | refine sp1 ?_ | refine sg1 ?_ | refine WL_nil ?_)
  refine WL_q (opq_of (opy_nilP (neg := false) rfl rfl rfl rfl (by first | trivial | (simp; done) | (simp; omega) | (simp at *; done) | (simp at *; omega))) rfl) (by rw [hn]; rfl) ?_
  repeat (first | refine stp ?_ | refine N_block_pass rfl ?_ | refine sp1 ?_ | refine sg1 ?_ | refine WL_nil ?_)
  refine W_cond rfl (by simp) (fun h1 => ?_) (fun h1 => ?_)
  · simp at h1
  repeat (first | refine stp ?_ | refine N_block_pass rfl ?_ | refine sp1 ?_ | refine sg1 ?_ | refine WL_nil ?_)
  exact rt1 []
theorem left_ok (l : List Int) (p : Nat) (hp : p ≤ l.length) (hl : l.length ≤ 9223372036854775807) : Ct Try.prog 93 [curD l p] [] (lv (.int .i64 ((l.length : Int) - (p : Int)))) [] [] := by
  have e : IntKind.i64.wrap ((l.length : Int) - (p : Int)) = (l.length : Int) - (p : Int) := by simp [IntKind.wrap, IntKind.signed, IntKind.bits]; omega
  refine Ct_intro Try.func93 rfl rfl rfl rfl rfl (fun E hn hb => ?_)
  repeat (first | refine stp ?_ | refine N_block_pass rfl ?_ | refine sp1 ?_ | refine sg1 ?_ | refine WL_nil ?_)
  refine WL_q (opq_of (opy_nilP (neg := false) rfl rfl rfl rfl (by first | trivial | (simp; done) | (simp; omega) | (simp at *; done) | (simp at *; omega))) rfl) (by rw [hn]; rfl) ?_
  repeat (first | refine stp ?_ | refine N_block_pass rfl ?_ | refine sp1 ?_ | refine sg1 ?_ | refine WL_nil ?_)
  refine W_cond rfl (by simp) (fun h1 => ?_) (fun h1 => ?_)
  · simp at h1
  repeat (first | refine stp ?_ | refine N_block_pass rfl ?_ | refine sp1 ?_ | refine sg1 ?_ | refine WL_nil ?_)
  refine W_drawP (by kernel_rfl) (by kernel_rfl) (by rw [hn]; rfl) ?_
  repeat (first | refine dp1 ?_ | refine dg1 ?_ | refine DrawW_nil ?_)
  refine DrawW_cons rfl (ops_of (opys_call (size_ok l p) rfl rfl rfl (by first | trivial | (simp; done) | (simp; omega) | (simp at *; done) | (simp at *; omega)) rfl rfl rfl) rfl) ?_
  repeat (first | refine dp1 ?_ | refine dg1 ?_ | refine DrawW_nil ?_)
  repeat (first | refine stp ?_ | refine N_block_pass rfl ?_ | refine sp1 ?_ | refine sg1 ?_ | refine WL_nil ?_)
  exact rt1 []
/-- May so many bytes be taken? -/
def mayF (l : List Int) (p : Nat) (n : Int) : Int := if n < 0 then 1 else if (l.length : Int) - p < n then 3 else 0
theorem may_ok (l : List Int) (p : Nat) (n : Int) (hp : p ≤ l.length) (hl : l.length ≤ 9223372036854775807) : Ct Try.prog 176 [curD l p, lv (.int .i64 n)] [] (lv (.int .i64 (mayF l p n))) [] [] := by
  refine Ct_intro Try.func176 rfl rfl rfl rfl rfl (fun E hn hb => ?_)
  repeat (first | refine stp ?_ | refine N_block_pass rfl ?_ | refine sp1 ?_ | refine sg1 ?_ | refine WL_nil ?_)
  refine WL_q (opq_of (opy_nilP (neg := false) rfl rfl rfl rfl (by first | trivial | (simp; done) | (simp; omega) | (simp at *; done) | (simp at *; omega))) rfl) (by rw [hn]; rfl) ?_
  repeat (first | refine stp ?_ | refine N_block_pass rfl ?_ | refine sp1 ?_ | refine sg1 ?_ | refine WL_nil ?_)
  refine W_cond rfl (by simp) (fun h1 => ?_) (fun h1 => ?_)
  · simp at h1
  repeat (first | refine stp ?_ | refine N_block_pass rfl ?_ | refine sp1 ?_ | refine sg1 ?_ | refine WL_nil ?_)
  refine W_cond rfl (by simp) (fun h2 => ?_) (fun h2 => ?_)
  · have e : mayF l p n = 1 := by
      have : n < 0 := by simpa using h2
      rw [mayF, if_pos this]
    rw [e]
    repeat (first | refine stp ?_ | refine N_block_pass rfl ?_ | refine sp1 ?_ | refine sg1 ?_ | refine WL_nil ?_)
    exact rt1 []
  have n2 : ¬ n < 0 := by simpa using h2
  repeat (first | refine stp ?_ | refine N_block_pass rfl ?_ | refine sp1 ?_ | refine sg1 ?_ | refine WL_nil ?_)
  refine s_call0 (left_ok l p hp hl) rfl rfl rfl (by rw [hn]; rfl) rfl rfl (by first | trivial | (simp; done) | (simp; omega) | (simp at *; done) | (simp at *; omega)) rfl rfl rfl ?_
  repeat (first | refine stp ?_ | refine N_block_pass rfl ?_ | refine sp1 ?_ | refine sg1 ?_ | refine WL_nil ?_)
  refine W_cond rfl (by simp) (fun h3 => ?_) (fun h3 => ?_)
  · have e : mayF l p n = 3 := by
      have : (l.length : Int) - p < n := by simpa using h3
      rw [mayF, if_neg n2, if_pos this]
    rw [e]
    repeat (first | refine stp ?_ | refine N_block_pass rfl ?_ | refine sp1 ?_ | refine sg1 ?_ | refine WL_nil ?_)
    exact rt1 []
  · have e : mayF l p n = 0 := by
      have : ¬ (l.length : Int) - p < n := by simpa using h3
      rw [mayF, if_neg n2, if_neg this]
    rw [e]
    repeat (first | refine stp ?_ | refine N_block_pass rfl ?_ | refine sp1 ?_ | refine sg1 ?_ | refine WL_nil ?_)
    exact rt1 []
theorem peek_ok (l : List Int) (p : Nat) (hp : p < l.length) (hl : l.length ≤ 9223372036854775807) : Ct Try.prog 207 [curD l p] [] (.tup [lv (.int .u8 (l.getD p 0)), lv (.int .i64 0)]) [] [] := by
  refine Ct_intro Try.func207 rfl rfl rfl rfl rfl (fun E hn hb => ?_)
  repeat (first | refine stp ?_ | refine N_block_pass rfl ?_ | refine sp1 ?_ | refine sg1 ?_ | refine WL_nil ?_)
  refine WL_q (opq_of (opy_nilP (neg := false) rfl rfl rfl rfl (by first | trivial | (simp; done) | (simp; omega) | (simp at *; done) | (simp at *; omega))) rfl) (by rw [hn]; rfl) ?_
  repeat (first | refine stp ?_ | refine N_block_pass rfl ?_ | refine sp1 ?_ | refine sg1 ?_ | refine WL_nil ?_)
  refine W_cond rfl (by simp) (fun h1 => ?_) (fun h1 => ?_)
  · simp at h1
  repeat (first | refine stp ?_ | refine N_block_pass rfl ?_ | refine sp1 ?_ | refine sg1 ?_ | refine WL_nil ?_)
  refine s_call0 (left_ok l p (by omega) hl) rfl rfl rfl (by rw [hn]; rfl) rfl rfl (by first | trivial | (simp; done) | (simp; omega) | (simp at *; done) | (simp at *; omega)) rfl rfl rfl ?_
  repeat (first | refine stp ?_ | refine N_block_pass rfl ?_ | refine sp1 ?_ | refine sg1 ?_ | refine WL_nil ?_)
  refine W_cond rfl (by simp) (fun h3 => ?_) (fun h3 => ?_)
  · simp at h3; omega
  repeat (first | refine stp ?_ | refine N_block_pass rfl ?_ | refine sp1 ?_ | refine sg1 ?_ | refine WL_nil ?_)
  refine W_drawW 13 (by kernel_rfl) (by kernel_rfl) (by kernel_rfl) (by rw [hn]; rfl) rfl rfl ?_
  repeat (first | refine dp1 ?_ | refine dg1 ?_ | refine DrawW_nil ?_)
  repeat (first | refine stp ?_ | refine N_block_pass rfl ?_ | refine sp1 ?_ | refine sg1 ?_ | refine WL_nil ?_)
  refine rt2 [] ?_ ?_
  · show Av.tup [lv (.int .u8 (l.getD (p : Int).toNat 0)), lv (.int .i64 0)] = _
    rw [Int.toNat_natCast]
    rfl
  · trivial
theorem peek_end (l : List Int) (hl : l.length ≤ 9223372036854775807) : Ct Try.prog 207 [curD l l.length] [] (.tup [lv (.int .u8 0), lv (.int .i64 3)]) [] [] := by
  refine Ct_intro Try.func207 rfl rfl rfl rfl rfl (fun E hn hb => ?_)
  repeat (first | refine stp ?_ | refine N_block_pass rfl ?_ | refine sp1 ?_ | refine sg1 ?_ | refine WL_nil ?_)
  refine WL_q (opq_of (opy_nilP (neg := false) rfl rfl rfl rfl (by first | trivial | (simp; done) | (simp; omega) | (simp at *; done) | (simp at *; omega))) rfl) (by rw [hn]; rfl) ?_
  repeat (first | refine stp ?_ | refine N_block_pass rfl ?_ | refine sp1 ?_ | refine sg1 ?_ | refine WL_nil ?_)
  refine W_cond rfl (by simp) (fun h1 => ?_) (fun h1 => ?_)
  · simp at h1
  repeat (first | refine stp ?_ | refine N_block_pass rfl ?_ | refine sp1 ?_ | refine sg1 ?_ | refine WL_nil ?_)
  refine s_call0 (left_ok l l.length (by omega) hl) rfl rfl rfl (by rw [hn]; rfl) rfl rfl (by first | trivial | (simp; done) | (simp; omega) | (simp at *; done) | (simp at *; omega)) rfl rfl rfl ?_
  repeat (first | refine stp ?_ | refine N_block_pass rfl ?_ | refine sp1 ?_ | refine sg1 ?_ | refine WL_nil ?_)
  refine W_cond rfl (by simp) (fun h3 => ?_) (fun h3 => ?_)
  · repeat (first | refine stp ?_ | refine N_block_pass rfl ?_ | refine sp1 ?_ | refine sg1 ?_ | refine WL_nil ?_)
    exact rt1 []
  · simp at h3
theorem cut_ok (l : List Int) (p a n : Nat) (h : a + n ≤ l.length) (hl : l.length ≤ 1000000) : Ct Try.prog 148 [curD l p, lv (.int .i64 (a : Int)), lv (.int .i64 ((a : Int) + (n : Int)))] [] (.c (.own 0 1 0 n)) [] [.row (.ints .u8 ((l.drop a).take n))] := by
  have e : IntKind.i64.wrap (((a : Int) + (n : Int)) - (a : Int)) = (n : Int) := by simp [IntKind.wrap, IntKind.signed, IntKind.bits]; omega
  have e2 : ((a : Int) + (n : Int)) - (a : Int) = (n : Int) := by omega
  refine Ct_intro Try.func148 rfl rfl rfl rfl rfl (fun E hn hb => ?_)
  repeat (first | refine stp ?_ | refine N_block_pass rfl ?_ | refine sp1 ?_ | refine sg1 ?_ | refine WL_nil ?_)
  rw [e2]
  refine s_makeI (by_ := 1) rfl rfl rfl (by rw [hn]; rfl) (elt_mk Try.underlying24 rfl rfl) rfl rfl rfl (by first | trivial | (simp; done) | (simp; omega) | (simp at *; done) | (simp at *; omega)) n (by first | rfl | (simp; done) | omega) (by first | (simp; done) | omega | (simp at *; omega)) ?_
  repeat (first | refine stp ?_ | refine N_block_pass rfl ?_ | refine sp1 ?_ | refine sg1 ?_ | refine WL_nil ?_)
  have e3 : (List.take ((a : Int) + (n : Int)).toNat l).drop (a : Int).toNat = (l.drop a).take n := by
    rw [show ((a : Int) + (n : Int)).toNat = a + n by omega, Int.toNat_natCast, List.drop_take, Nat.add_sub_cancel_left]
  rw [e3]
  have hx : ((l.drop a).take n).length = n := by simp; omega
  generalize (l.drop a).take n = x at *
  refine s_copyI rfl rfl rfl rfl rfl rfl (by rw [hn]; rfl) (elt_mk Try.underlying24 rfl rfl) rfl rfl rfl (by first | trivial | (simp; done) | (simp; omega) | (simp at *; done) | (simp at *; omega)) (by first | (simp; done) | (simp; omega) | (simp at *; omega)) ?_
  repeat (first | refine stp ?_ | refine N_block_pass rfl ?_ | refine sp1 ?_ | refine sg1 ?_ | refine WL_nil ?_)
  refine rt2 [75] ?_ ?_
  · rfl
  · have e4 : List.take n x = x := List.take_of_length_le (by omega)
    have e5 : List.take 0 (List.replicate n (0 : Int)) ++ List.take n x ++ List.drop (0 + (List.take n x).length) (List.replicate n (0 : Int)) = x := by
      rw [e4]; simp; omega
    show Blk.row (.ints .u8 (List.take 0 (List.replicate n (0 : Int)) ++ List.take n x ++ List.drop (0 + (List.take n x).length) (List.replicate n (0 : Int)))) = _ 
    rw [e5]
    rfl
end Go.Proofs.Ythalijmfhllgbaa

namespace Go.Proofs.Ythalijmfhllgbaa
set_option linter.unusedSimpArgs false
set_option linter.unusedVariables false
open Go.Sx

set_option maxRecDepth 10000

theorem curnew_ok (l : List Int) (hl : l.length ≤ 1000000) : Ct Try.prog 44 [B8 l] [] (.c (.ptr 0 0)) [] [curB l 0] := by
  refine Ct_intro Try.func44 rfl rfl rfl rfl rfl (fun E hn hb => ?_)
  repeat (first | refine stp ?_ | refine N_block_pass rfl ?_ | refine sp1 ?_ | refine sg1 ?_ | refine WL_nil ?_)
  refine s_boxN rfl rfl rfl (by rw [hn]; rfl) rfl (by first | trivial | (simp; done) | (simp; omega) | (simp at *; done) | (simp at *; omega)) rfl rfl ?_
  repeat (first | refine stp ?_ | refine N_block_pass rfl ?_ | refine sp1 ?_ | refine sg1 ?_ | refine WL_nil ?_)
  refine s_makeI (by_ := 1) rfl rfl rfl (by rw [hn]; rfl) (elt_mk Try.underlying24 rfl rfl) rfl rfl rfl (by first | trivial | (simp; done) | (simp; omega) | (simp at *; done) | (simp at *; omega)) l.length (by first | rfl | (simp; done) | omega) (by first | (simp; done) | omega | (simp at *; omega)) ?_
  repeat (first | refine stp ?_ | refine N_block_pass rfl ?_ | refine sp1 ?_ | refine sg1 ?_ | refine WL_nil ?_)
  refine s_storeN rfl rfl rfl rfl rfl (by first | trivial | (simp; done) | (simp; omega) | (simp at *; done) | (simp at *; omega)) rfl rfl rfl (by rw [cellsOf24]; rfl) (by rw [info24]; rfl) rfl rfl ?_
  repeat (first | refine stp ?_ | refine N_block_pass rfl ?_ | refine sp1 ?_ | refine sg1 ?_ | refine WL_nil ?_)
  refine s_copyI rfl rfl rfl rfl rfl rfl (by rw [hn]; rfl) (elt_mk Try.underlying24 rfl rfl) rfl rfl rfl (by first | trivial | (simp; done) | (simp; omega) | (simp at *; done) | (simp at *; omega)) (by first | (simp; done) | (simp; omega) | (simp at *; omega)) ?_
  have e4 : List.take 0 (List.replicate l.length (0 : Int)) ++ List.take l.length l ++ List.drop (0 + (List.take l.length l).length) (List.replicate l.length (0 : Int)) = l := by
    simp
  rw [e4]
  refine WL_sr (fun a w h => SR.freezeC (d := .ints .u8 l) (cs := [.own 73 1 0 l.length, .lf (.v (.int .i64 0))]) (cs' := [.lf (.ints .u8 l), .lf (.v (.int .i64 0))]) 73 69 rfl rfl rfl (by rw [hb]; decide) (fun i hi => by rw [hb] at hi; exact absurd hi (Nat.not_lt_zero _)) ⟨⟨rfl, rfl, rfl, by omega, by rw [List.drop_zero, List.take_length]⟩, rfl, trivial⟩ h) ?_
  repeat (first | refine stp ?_ | refine N_block_pass rfl ?_ | refine sp1 ?_ | refine sg1 ?_ | refine WL_nil ?_)
  exact rt1 [69]
theorem byte_ok (l : List Int) (p : Nat) (hp : p < l.length) (hl : l.length ≤ 1000000) : Ct Try.prog 198 [.c (.ptr 0 0)] [curB l p] (.tup [lv (.int .u8 (l.getD p 0)), lv (.int .i64 0)]) [curB l (p + 1)] [] := by
  have e : ((p : Int) + 1) = ((p + 1 : Nat) : Int) := by omega
  refine Ct_intro Try.func198 rfl rfl rfl rfl rfl (fun E hn hb => ?_)
  repeat (first | refine stp ?_ | refine N_block_pass rfl ?_ | refine sp1 ?_ | refine sg1 ?_ | refine WL_nil ?_)
  refine WL_q (opq_of (opy_callL (peek_ok l p hp (by omega)) rfl rfl rfl (by first | trivial | (simp; done) | (simp; omega) | (simp at *; done) | (simp at *; omega)) ⟨.inr (.inr ⟨0, 0, _, _, rfl, rfl, rfl, rfl⟩), trivial⟩ rfl) rfl) (by rw [hn]; rfl) ?_
  repeat (first | refine stp ?_ | refine N_block_pass rfl ?_ | refine sp1 ?_ | refine sg1 ?_ | refine WL_nil ?_)
  refine W_cond rfl (by simp) (fun h1 => ?_) (fun h1 => ?_)
  · repeat (first | refine stp ?_ | refine N_block_pass rfl ?_ | refine sp1 ?_ | refine sg1 ?_ | refine WL_nil ?_)
    refine s_storeN rfl rfl rfl rfl rfl (by first | trivial | (simp; done) | (simp; omega) | (simp at *; done) | (simp at *; omega)) rfl rfl rfl (by rw [cellsOf3]; rfl) (by rw [info3]; rfl) rfl rfl ?_
    repeat (first | refine stp ?_ | refine N_block_pass rfl ?_ | refine sp1 ?_ | refine sg1 ?_ | refine WL_nil ?_)
    refine rt2 [] ?_ ?_
    · rfl
    · trivial
  · simp at h1
theorem byte_end (l : List Int) (hl : l.length ≤ 1000000) : Ct Try.prog 198 [.c (.ptr 0 0)] [curB l l.length] (.tup [lv (.int .u8 0), lv (.int .i64 3)]) [curB l l.length] [] := by
  refine Ct_intro Try.func198 rfl rfl rfl rfl rfl (fun E hn hb => ?_)
  repeat (first | refine stp ?_ | refine N_block_pass rfl ?_ | refine sp1 ?_ | refine sg1 ?_ | refine WL_nil ?_)
  refine WL_q (opq_of (opy_callL (peek_end l (by omega)) rfl rfl rfl (by first | trivial | (simp; done) | (simp; omega) | (simp at *; done) | (simp at *; omega)) ⟨.inr (.inr ⟨0, 0, _, _, rfl, rfl, rfl, rfl⟩), trivial⟩ rfl) rfl) (by rw [hn]; rfl) ?_
  repeat (first | refine stp ?_ | refine N_block_pass rfl ?_ | refine sp1 ?_ | refine sg1 ?_ | refine WL_nil ?_)
  refine W_cond rfl (by simp) (fun h1 => ?_) (fun h1 => ?_)
  · simp at h1
  · repeat (first | refine stp ?_ | refine N_block_pass rfl ?_ | refine sp1 ?_ | refine sg1 ?_ | refine WL_nil ?_)
    exact rt1 []
theorem take_ok (l : List Int) (p n : Nat) (hp : p + n ≤ l.length) (hl : l.length ≤ 1000000) : Ct Try.prog 143 [.c (.ptr 0 0), lv (.int .i64 (n : Int))] [curB l p] (.tup [B8 ((l.drop p).take n), lv (.int .i64 0)]) [curB l (p + n)] [] := by
  have e : mayF l p n = 0 := by rw [mayF, if_neg (by omega), if_neg (by omega)]
  have hm := may_ok l p n (by omega) (by omega)
  rw [e] at hm
  have hlen : ((l.drop p).take n).length = n := by simp; omega
  refine Ct_intro Try.func143 rfl rfl rfl rfl rfl (fun E hn hb => ?_)
  repeat (first | refine stp ?_ | refine N_block_pass rfl ?_ | refine sp1 ?_ | refine sg1 ?_ | refine WL_nil ?_)
  refine WL_q (opq_of (opy_callL (hm) rfl rfl rfl (by first | trivial | (simp; done) | (simp; omega) | (simp at *; done) | (simp at *; omega)) ⟨.inr (.inr ⟨0, 0, _, _, rfl, rfl, rfl, rfl⟩), .inl rfl, trivial⟩ rfl) rfl) (by rw [hn]; rfl) ?_
  repeat (first | refine stp ?_ | refine N_block_pass rfl ?_ | refine sp1 ?_ | refine sg1 ?_ | refine WL_nil ?_)
  refine W_cond rfl (by simp) (fun h1 => ?_) (fun h1 => ?_)
  · simp at h1
  repeat (first | refine stp ?_ | refine N_block_pass rfl ?_ | refine sp1 ?_ | refine sg1 ?_ | refine WL_nil ?_)
  refine W_drawP (by kernel_rfl) (by kernel_rfl) (by rw [hn]; rfl) ?_
  repeat (first | refine dp1 ?_ | refine dg1 ?_ | refine DrawW_nil ?_)
  refine DrawW_cons rfl (ops_of (opys_callF (cut_ok l p p n hp hl) rfl rfl rfl (by first | trivial | (simp; done) | (simp; omega) | (simp at *; done) | (simp at *; omega)) ⟨.inr (.inr ⟨0, 0, _, _, rfl, rfl, rfl, rfl⟩), .inl rfl, .inl rfl, trivial⟩ rfl (by first | (simp; done) | (simp; omega) | omega)) rfl) ?_
  repeat (first | refine dp1 ?_ | refine dg1 ?_ | refine DrawW_nil ?_)
  repeat (first | refine stp ?_ | refine N_block_pass rfl ?_ | refine sp1 ?_ | refine sg1 ?_ | refine WL_nil ?_)
  refine s_storeN rfl rfl rfl rfl rfl (by first | trivial | (simp; done) | (simp; omega) | (simp at *; done) | (simp at *; omega)) rfl rfl rfl (by rw [cellsOf3]; rfl) (by rw [info3]; rfl) rfl rfl ?_
  repeat (first | refine stp ?_ | refine N_block_pass rfl ?_ | refine sp1 ?_ | refine sg1 ?_ | refine WL_nil ?_)
  refine rt2 [] ?_ ?_
  · show Av.tup [B8 ((((l.drop p).take n).drop 0).take n), lv (.int .i64 0)] = _
    rw [List.drop_zero, List.take_of_length_le (by omega)]
    rfl
  · trivial
theorem take_err (l : List Int) (p : Nat) (n : Int) (h0 : 0 ≤ n) (hp : p ≤ l.length) (hn : (l.length : Int) - p < n) (hl : l.length ≤ 1000000) : Ct Try.prog 143 [.c (.ptr 0 0), lv (.int .i64 n)] [curB l p] (.tup [.c (.lf (.v (.slice none 0 0))), lv (.int .i64 3)]) [curB l p] [] := by
  have e : mayF l p n = 3 := by rw [mayF, if_neg (by omega), if_pos hn]
  have hm := may_ok l p n (by omega) (by omega)
  rw [e] at hm
  refine Ct_intro Try.func143 rfl rfl rfl rfl rfl (fun E hn hb => ?_)
  repeat (first | refine stp ?_ | refine N_block_pass rfl ?_ | refine sp1 ?_ | refine sg1 ?_ | refine WL_nil ?_)
  refine WL_q (opq_of (opy_callL (hm) rfl rfl rfl (by first | trivial | (simp; done) | (simp; omega) | (simp at *; done) | (simp at *; omega)) ⟨.inr (.inr ⟨0, 0, _, _, rfl, rfl, rfl, rfl⟩), .inl rfl, trivial⟩ rfl) rfl) (by rw [hn]; rfl) ?_
  repeat (first | refine stp ?_ | refine N_block_pass rfl ?_ | refine sp1 ?_ | refine sg1 ?_ | refine WL_nil ?_)
  refine W_cond rfl (by simp) (fun h1 => ?_) (fun h1 => ?_)
  · repeat (first | refine stp ?_ | refine N_block_pass rfl ?_ | refine sp1 ?_ | refine sg1 ?_ | refine WL_nil ?_)
    exact rt1 []
  · simp at h1
theorem back_ok (l : List Int) (p q : Nat) (hq : q ≤ p) (hl : p ≤ 1000000) : Ct Try.prog 104 [.c (.ptr 0 0), lv (.int .i64 (q : Int))] [curB l p] (lv (.int .i64 0)) [curB l q] [] := by
  refine Ct_intro Try.func104 rfl rfl rfl rfl rfl (fun E hn hb => ?_)
  repeat (first | refine stp ?_ | refine N_block_pass rfl ?_ | refine sp1 ?_ | refine sg1 ?_ | refine WL_nil ?_)
  refine WL_q (opq_of (opy_nilP (neg := false) rfl rfl rfl rfl (by first | trivial | (simp; done) | (simp; omega) | (simp at *; done) | (simp at *; omega))) rfl) (by rw [hn]; rfl) ?_
  repeat (first | refine stp ?_ | refine N_block_pass rfl ?_ | refine sp1 ?_ | refine sg1 ?_ | refine WL_nil ?_)
  refine W_cond rfl (by simp) (fun h1 => ?_) (fun h1 => ?_)
  · simp at h1
  repeat (first | refine stp ?_ | refine N_block_pass rfl ?_ | refine sp1 ?_ | refine sg1 ?_ | refine WL_nil ?_)
  refine W_cond rfl (by simp) (fun h1 => ?_) (fun h1 => ?_)
  · simp at h1; omega
  repeat (first | refine stp ?_ | refine N_block_pass rfl ?_ | refine sp1 ?_ | refine sg1 ?_ | refine WL_nil ?_)
  refine s_storeN rfl rfl rfl rfl rfl (by first | trivial | (simp; done) | (simp; omega) | (simp at *; done) | (simp at *; omega)) rfl rfl rfl (by rw [cellsOf3]; rfl) (by rw [info3]; rfl) rfl rfl ?_
  repeat (first | refine stp ?_ | refine N_block_pass rfl ?_ | refine sp1 ?_ | refine sg1 ?_ | refine WL_nil ?_)
  exact rt1 []
end Go.Proofs.Ythalijmfhllgbaa

namespace Go.Proofs.Ythalijmfhllgbaa
set_option linter.unusedSimpArgs false
set_option linter.unusedVariables false
open Go.Sx

set_option maxRecDepth 10000

@[simp] theorem wrapE8 (x : Int) : IntKind.u8.wrap x = x % 256 := by simp [IntKind.wrap, IntKind.signed, IntKind.bits]
def WfB (l : List Int) : Prop := ∀ x ∈ l, 0 ≤ x ∧ x < 256
theorem set_mid (a b : List Int) (x y : Int) (i : Nat) (h : a.length = i) : (a ++ x :: b).set i y = a ++ y :: b := by
  subst h
  induction a with
  | nil => rfl
  | cons z a ih => simp [ih]

end Go.Proofs.Ythalijmfhllgbaa

namespace Go.Proofs.Ythalijmfhllgbaa
set_option linter.unusedSimpArgs false
set_option linter.unusedVariables false
open Go.Sx

set_option maxRecDepth 10000

def hd0 (l : List Int) : Int := l.getD 0 0
end Go.Proofs.Ythalijmfhllgbaa

namespace Go.Proofs.Ythalijmfhllgbaa
set_option linter.unusedSimpArgs false
set_option linter.unusedVariables false
open Go.Sx

set_option maxRecDepth 10000

/-- The first i and the last i turned about. -/
def revA (l : List Int) (i : Nat) : List Int := (List.range l.length).map fun k => if k < i ∨ l.length ≤ k + i then l.getD (l.length - 1 - k) 0 else l.getD k 0
theorem revA_len (l : List Int) (i : Nat) : (revA l i).length = l.length := by simp [revA]
theorem revA_get (l : List Int) (i k : Nat) (h : k < l.length) : (revA l i).getD k 0 = if k < i ∨ l.length ≤ k + i then l.getD (l.length - 1 - k) 0 else l.getD k 0 := by
  simp [revA, h]
theorem revA_zero (l : List Int) : revA l 0 = l := by
  apply List.ext_getElem?
  intro k
  by_cases h : k < l.length
  · simp [revA, h]; intro; omega
  · simp [revA, h]
theorem revA_all (l : List Int) (i : Nat) (h : l.length ≤ 2 * i + 1) : revA l i = l.reverse := by
  apply List.ext_getElem?
  intro k
  by_cases hk : k < l.length
  · rw [List.getElem?_reverse hk]
    simp only [revA, List.getElem?_map, List.getElem?_range hk, Option.map_some]
    have h1 : l.length - 1 - k < l.length := by omega
    rw [List.getElem?_eq_getElem h1]
    split
    · simp [h1]
    · have : l.length - 1 - k = k := by omega
      simp [this, hk]
  · simp [revA, hk]
theorem revA_set (l : List Int) (i : Nat) (h : 2 * i + 1 < l.length) : ((revA l i).set i (l.getD (l.length - 1 - i) 0)).set (l.length - 1 - i) (l.getD i 0) = revA l (i + 1) := by
  apply List.ext_getElem?
  intro k
  by_cases hk : k < l.length
  · simp only [List.getElem?_set, revA, List.getElem?_map, List.getElem?_range hk, Option.map_some, List.length_set, List.length_map, List.length_range]
    by_cases h1 : l.length - 1 - i = k
    · subst h1
      have e : l.length - 1 - (l.length - 1 - i) = i := by omega
      rw [if_pos rfl, if_pos (by omega), e, if_pos (by omega)]
    · rw [if_neg h1]
      by_cases h2 : i = k
      · subst h2
        rw [if_pos rfl, if_pos (by omega), if_pos (by omega)]
      · rw [if_neg h2]
        congr 1
        by_cases h3 : k < i ∨ l.length ≤ k + i
        · rw [if_pos h3, if_pos (by omega)]
        · rw [if_neg h3, if_neg (by omega)]
  · simp [revA, hk]

theorem reverse_ok (l : List Int) (hl : l.length ≤ 1000000) : Ct Try.prog 193 [.c (.own 0 1 0 l.length)] [.row (.ints .u8 l)] (.tup []) [.row (.ints .u8 l.reverse)] [] := by
  refine Ct_intro Try.func193 rfl rfl rfl rfl rfl (fun E hn hb => ?_)
  repeat (first | refine stp ?_ | refine N_block_pass rfl ?_ | refine sp1 ?_ | refine sg1 ?_ | refine WL_nil ?_)
  have ez := revA_zero l
  refine W_weaken (St.le_of (l := [(0, .c (.own 0 1 0 l.length)), (2, lv (.int .i64 0)), (3, lv (.int .i64 ((l.length : Int) - 1)))]) (h := [(0, .row (.ints .u8 l))]) (by refine ⟨?_, ?_⟩ <;> (repeat' (first | exact trivial | exact rfl | refine ⟨?_, ?_⟩)) <;> first | exact rfl | (simp; done) | skip)) ?_
  refine W_weaken (τ := St.of [(0, .c (.own 0 1 0 l.length)), (2, lv (.int .i64 ((0 : Nat) : Int))), (3, lv (.int .i64 ((l.length : Int) - 1 - (0 : Nat))))] [(0, .row (.ints .u8 (revA l 0)))]) ?_ ?_
  · rw [ez]; simp only [Int.natCast_zero, Int.sub_zero]; exact ⟨fun _ => .inl rfl, fun _ => .inl rfl⟩
  refine W_loop (ι := {i : Nat // 2 * i ≤ l.length + 1}) (fun i => St.of [(0, .c (.own 0 1 0 l.length)), (2, lv (.int .i64 (i.1 : Int))), (3, lv (.int .i64 ((l.length : Int) - 1 - i.1)))] [(0, .row (.ints .u8 (revA l i.1)))]) (fun i => l.length + 1 - 2 * i.1) (fun i => ?_) ⟨0, by omega⟩
  obtain ⟨i, hi⟩ := i
  dsimp only
  have hL := revA_len l i
  repeat (first | refine stp ?_ | refine N_block_pass rfl ?_ | refine sp1 ?_ | refine sg1 ?_ | refine WL_nil ?_)
  refine W_cond rfl (by simp) (fun hc => ?_) (fun hc => ?_)
  · have h2 : 2 * i + 1 < l.length := by simp at hc; omega
    repeat (first | refine stp ?_ | refine N_block_pass rfl ?_ | refine sp1 ?_ | refine sg1 ?_ | refine WL_nil ?_)
    refine W_drawX [2, 3] (by kernel_rfl) (by kernel_rfl) (by rw [hn]; rfl) ?_
    repeat (first | refine DrawX_op rfl rfl rfl (ops_pure true rfl rfl (by first | trivial | (simp; done) | (simp; omega) | (simp at *; done) | (simp at *; omega))) ?_ | refine DrawX_op rfl rfl rfl (ops_pureG true rfl rfl rfl (by intro hG; first | trivial | (simp; done) | (simp; omega) | (simp at *; done) | (simp at *; omega))) ?_ | refine DrawX_fr rfl rfl rfl (fun _ => ops_pure true rfl rfl (by first | trivial | (simp; done) | (simp; omega) | (simp at *; done) | (simp at *; omega))) ?_ | refine DrawX_nil ?_)
    refine DrawX_storeI rfl rfl rfl rfl (by first | trivial | (simp; done) | (simp; omega) | (simp at *; done) | (simp at *; omega)) rfl (by rw [cellsOf5]) (by first | (simp; done) | (simp; omega) | (simp at *; omega)) ?_
    repeat (first | refine DrawX_op rfl rfl rfl (ops_pure true rfl rfl (by first | trivial | (simp; done) | (simp; omega) | (simp at *; done) | (simp at *; omega))) ?_ | refine DrawX_op rfl rfl rfl (ops_pureG true rfl rfl rfl (by intro hG; first | trivial | (simp; done) | (simp; omega) | (simp at *; done) | (simp at *; omega))) ?_ | refine DrawX_fr rfl rfl rfl (fun _ => ops_pure true rfl rfl (by first | trivial | (simp; done) | (simp; omega) | (simp at *; done) | (simp at *; omega))) ?_ | refine DrawX_nil ?_)
    refine DrawX_storeI rfl rfl rfl rfl (by first | trivial | (simp; done) | (simp; omega) | (simp at *; done) | (simp at *; omega)) rfl (by rw [cellsOf5]) (by first | (simp; done) | (simp; omega) | (simp at *; omega)) ?_
    repeat (first | refine DrawX_op rfl rfl rfl (ops_pure true rfl rfl (by first | trivial | (simp; done) | (simp; omega) | (simp at *; done) | (simp at *; omega))) ?_ | refine DrawX_op rfl rfl rfl (ops_pureG true rfl rfl rfl (by intro hG; first | trivial | (simp; done) | (simp; omega) | (simp at *; done) | (simp at *; omega))) ?_ | refine DrawX_fr rfl rfl rfl (fun _ => ops_pure true rfl rfl (by first | trivial | (simp; done) | (simp; omega) | (simp at *; done) | (simp at *; omega))) ?_ | refine DrawX_nil ?_)
    repeat (first | refine stp ?_ | refine N_block_pass rfl ?_ | refine sp1 ?_ | refine sg1 ?_ | refine WL_nil ?_)
    have e1 : ((l.length : Int) - 1 - i).toNat = l.length - 1 - i := by omega
    have g1 : (revA l i).getD (0 + ((l.length : Int) - 1 - i).toNat) 0 = l.getD (l.length - 1 - i) 0 := by
      rw [e1, Nat.zero_add, revA_get l i _ (by omega), if_neg (by omega)]
    have g2 : (revA l i).getD (0 + (i : Int).toNat) 0 = l.getD i 0 := by
      rw [Int.toNat_natCast, Nat.zero_add, revA_get l i _ (by omega), if_neg (by omega)]
    rw [g1, g2]
    refine N_round ⟨i + 1, by omega⟩ (by dsimp only; omega) (St.le_of ⟨⟨rfl, rfl, ?_⟩, ?_⟩)
    · show lv (.int .i64 ((l.length : Int) - 1 - i - 1)) = lv (.int .i64 ((l.length : Int) - 1 - (i + 1 : Nat)))
      have : (l.length : Int) - 1 - i - 1 = (l.length : Int) - 1 - (i + 1 : Nat) := by omega
      rw [this]
    · show Blk.row (.ints .u8 (((revA l i).set (0 + (i : Int).toNat) (l.getD (l.length - 1 - i) 0)).set (0 + ((l.length : Int) - 1 - i).toNat) (l.getD i 0))) = Blk.row (.ints .u8 (revA l (i + 1)))
      rw [e1, Int.toNat_natCast, Nat.zero_add, Nat.zero_add, revA_set l i h2]
  · have h2 : l.length ≤ 2 * i + 1 := by simp at hc; omega
    repeat (first | refine stp ?_ | refine N_block_pass rfl ?_ | refine sp1 ?_ | refine sg1 ?_ | refine WL_nil ?_)
    refine N_endN [] rfl trivial ⟨rfl, ?_, trivial, rfl⟩ hb rfl (by simp [ordL])
    exact congrArg (fun l => Blk.row (.ints .u8 l)) (revA_all l i h2)
end Go.Proofs.Ythalijmfhllgbaa

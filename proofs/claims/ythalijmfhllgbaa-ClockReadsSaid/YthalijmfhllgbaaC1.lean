/-
  Chapter 01: cursors that are only looked at. The conditions: rows of bytes that a machine can hold.
-/
import Derived.Test.YthalijmfhllgbaaTy
import Derived.Test.YthalijmfhllgbaaSxT
import Derived.Test.YthalijmfhllgbaaSxC
namespace Go.Proofs.Ythalijmfhllgbaa
set_option linter.unusedSimpArgs false
set_option linter.unusedVariables false
open Go.Sx

set_option maxRecDepth 10000
abbrev B8 (l : List Int) : Av := .c (.lf (.ints .u8 l))
end Go.Proofs.Ythalijmfhllgbaa

namespace Go.Proofs.Ythalijmfhllgbaa
set_option linter.unusedSimpArgs false
set_option linter.unusedVariables false
open Go.Sx

set_option maxRecDepth 10000

theorem opys_lenT {P : Program} {E : Env} {ops : Array Oper} {o : Oper} {σ : St} {c : Call} {x : Operand} {ps : List Prop} {K off len : Nat} {t e u : TypeId} (hop : o.op = .call c) (hc : c.callee = .builtin .len) (ha : c.args = #[x]) (ht : c.argTypes = #[t]) (hu : P.underlying t = some (.slice u)) (hx : ox σ x = (ps, .c (.town K off len e))) (hp : AllP ps) :
    OpYS P E ops o σ (lv (.int .i64 (len : Int))) := by
  intro τ hlk
  have e1 : ox τ x = ox σ x := hlk.ox x (by rw [hop]; simp [Op.operands, Call.operands, hc, ha])
  refine opy_run fun β F a w hS => ?_
  have h1 := oxR hS x
  rw [e1, hx] at h1
  have h1 := h1 hp
  generalize he : a.eval x = v at h1
  dsimp only at h1
  cases h1 with | c h1 => cases h1 with | town _ _ _ _ ad cp hcc hm h =>
  refine ⟨.int .i64 (len : Int), ?_, .c (.lf (.v _ rfl))⟩
  simp only [execOp, hop, resolve, hc, ha, ht, Sem.run_bind, Sem.run_pure, Result.andThen_ok, invoke, builtin]
  simp only [List.map_toArray, List.map_cons, List.map_nil, he]
  simp [Builtin.len_, run_underlying hu, goInt]
abbrev bldB (p : Cell) (n : Nat) : Blk := .cells [p, .town 1 0 n 5]
abbrev nilC : Cell := .lf (.v (.pointer none))
/-- A builder's own address: none yet, or its own. -/
def addrOk (p : Cell) : Prop := p = nilC ∨ p = .ptr 0 0
theorem check_fresh (n : Nat) (l : List Int) : Ct Try.prog 191 [.c (.tptr 0 232)] [bldB nilC n, .row (.ints .u8 l)] (.tup []) [bldB (.ptr 0 0) n, .row (.ints .u8 l)] [] := by
  refine Ct_intro Try.func191 rfl rfl rfl rfl rfl (fun E hn hb => ?_)
  repeat (first | refine stp ?_ | refine N_block_pass rfl ?_ | refine sp1 ?_ | refine sg1 ?_ | refine WL_nil ?_)
  refine WL_sr (fun a w h => h.untag 2 rfl) ?_
  repeat (first | refine stp ?_ | refine N_block_pass rfl ?_ | refine sp1 ?_ | refine sg1 ?_ | refine WL_nil ?_)
  refine W_cond rfl (by simp) (fun h1 => ?_) (fun h1 => ?_)
  · repeat (first | refine stp ?_ | refine N_block_pass rfl ?_ | refine sp1 ?_ | refine sg1 ?_ | refine WL_nil ?_)
    have ht : ((Try.prog.info? 232).map fun i => Nat.ble 1 i.size) = some true := by kernel_rfl
    have h3 : Try.prog.underlying 230 = some (.pointer 232) := Try.underlying230
    have h4 : Try.prog.underlying 263 = some .unsafePointer := Try.underlying263
    have h5 : (Try.prog.info? 232).isSome = true := by kernel_rfl
    have h6 : liesAt Try.prog Try.prog.depth 232 (([nilC, .town 1 0 n 5] : List Cell).length / Try.prog.cellsOf 232) 0 232 1 = true := by kernel_rfl
    refine WL_q (opq_of (opy_toU rfl h3 h4 ht rfl (by trivial) rfl rfl) rfl) (by rw [hn]; rfl) ?_
    have g1 : (Try.f206.name == "runtime.NumGoroutine") = false := by kernel_rfl
    have g2 : Try.f206.body.isNone = true := by kernel_rfl
    have g3 : Extern.findNext Try.f206 = none := by kernel_rfl
    have g4 : Extern.find Try.f206 = some Extern.AbiNoEscape.same := by kernel_rfl
    refine WL_q (x := .c (.tptr 0 232)) ?_ (by rw [hn]; rfl) ?_
    · refine opq_of ?_ rfl
      refine opy_noEsc (c := { callee := .value (.func 206), args := #[.tmp 9], argTypes := #[263] }) (x := .tmp 9) (f := 206) (fn := Try.f206) (ps := []) ?_ ?_ ?_ ?_ ?_ ?_ ?_ ?_ ?_ ?_
      · exact rfl
      · exact rfl
      · exact rfl
      · exact Try.func206
      · exact g1
      · exact g2
      · exact g3
      · exact g4
      · exact rfl
      · trivial
    refine WL_q (opq_of (opy_fromU (cs := [nilC, .town 1 0 n 5]) rfl h4 h3 h5 h6 rfl (by trivial) rfl) rfl) (by rw [hn]; rfl) ?_
    refine WL_sr (fun a w h => h.untag 7 rfl) ?_
    repeat (first | refine stp ?_ | refine N_block_pass rfl ?_ | refine sp1 ?_ | refine sg1 ?_ | refine WL_nil ?_)
    refine s_storeN rfl rfl rfl rfl rfl (by first | trivial | (simp; done) | (simp; omega) | (simp at *; done) | (simp at *; omega)) rfl rfl rfl (by rw [cellsOf230]; rfl) (by rw [info230]; rfl) rfl rfl ?_
    repeat (first | refine stp ?_ | refine N_block_pass rfl ?_ | refine sp1 ?_ | refine sg1 ?_ | refine WL_nil ?_)
    exact N_endN [] rfl trivial ⟨rfl, ⟨rfl, rfl⟩, trivial, rfl⟩ hb rfl (by simp [ordL])
  · simp at h1
theorem check_used (n : Nat) (l : List Int) : Ct Try.prog 191 [.c (.tptr 0 232)] [bldB (.ptr 0 0) n, .row (.ints .u8 l)] (.tup []) [bldB (.ptr 0 0) n, .row (.ints .u8 l)] [] := by
  refine Ct_intro Try.func191 rfl rfl rfl rfl rfl (fun E hn hb => ?_)
  repeat (first | refine stp ?_ | refine N_block_pass rfl ?_ | refine sp1 ?_ | refine sg1 ?_ | refine WL_nil ?_)
  refine WL_sr (fun a w h => h.untag 2 rfl) ?_
  repeat (first | refine stp ?_ | refine N_block_pass rfl ?_ | refine sp1 ?_ | refine sg1 ?_ | refine WL_nil ?_)
  refine WL_q (opq_of (opy_nilP (neg := false) rfl rfl rfl rfl (by first | trivial | (simp; done) | (simp; omega) | (simp at *; done) | (simp at *; omega))) rfl) (by rw [hn]; rfl) ?_
  repeat (first | refine stp ?_ | refine N_block_pass rfl ?_ | refine sp1 ?_ | refine sg1 ?_ | refine WL_nil ?_)
  refine W_cond rfl (by simp) (fun h1 => ?_) (fun h1 => ?_)
  · simp at h1
  · repeat (first | refine stp ?_ | refine N_block_pass rfl ?_ | refine sp1 ?_ | refine sg1 ?_ | refine WL_nil ?_)
    refine WL_sr (fun a w h => h.untag 14 rfl) ?_
    repeat (first | refine stp ?_ | refine N_block_pass rfl ?_ | refine sp1 ?_ | refine sg1 ?_ | refine WL_nil ?_)
    refine WL_q (opq_of (opy_samePtr rfl Try.underlying230 rfl rfl rfl (by trivial)) rfl) (by rw [hn]; rfl) ?_
    repeat (first | refine stp ?_ | refine N_block_pass rfl ?_ | refine sp1 ?_ | refine sg1 ?_ | refine WL_nil ?_)
    refine W_cond rfl (by simp) (fun h2 => ?_) (fun h2 => ?_)
    · simp at h2
    · repeat (first | refine stp ?_ | refine N_block_pass rfl ?_ | refine sp1 ?_ | refine sg1 ?_ | refine WL_nil ?_)
      exact N_endN [] rfl trivial ⟨rfl, ⟨rfl, rfl⟩, trivial, rfl⟩ hb rfl (by simp [ordL])
theorem check_ok {p : Cell} (hp : addrOk p) (n : Nat) (l : List Int) : Ct Try.prog 191 [.c (.tptr 0 232)] [bldB p n, .row (.ints .u8 l)] (.tup []) [bldB (.ptr 0 0) n, .row (.ints .u8 l)] [] := by
  rcases hp with rfl | rfl
  · exact check_fresh n l
  · exact check_used n l
abbrev nilE : Av := lv .nilIface
theorem writeString_ok {p : Cell} (hp : addrOk p) (l : List Int) (s : ByteArray) (hl : l.length ≤ 1000000) (hs : s.size ≤ 1000000) :
    CtM Try.prog 168 [.c (.tptr 0 232), lv (.string s)] [bldB p l.length, .row (.ints .u8 l)] (.tup [lv (.int .i64 (s.size : Int)), nilE])
      [.cells [.ptr 0 0, .town 2 0 (l.length + s.size) 5], .gone] [.row (.ints .u8 (l ++ strL s))] := by
  have h1 := check_ok hp l.length l
  have h0 : addrOk p := hp
  rcases hp with rfl | rfl
  all_goals
    refine CtM_intro Try.func168 rfl rfl rfl rfl rfl (fun E hn hb => ?_)
    repeat (first | refine stp ?_ | refine N_block_pass rfl ?_ | refine sp1 ?_ | refine sg1 ?_ | refine WL_nil ?_)
    refine s_call [0, 1] h1 rfl rfl (by rw [hn]; rfl) rfl rfl (by trivial) ⟨rfl, ⟨rfl, rfl⟩, (by simp [ordL]), rfl⟩ ?_
    repeat (first | refine stp ?_ | refine N_block_pass rfl ?_ | refine sp1 ?_ | refine sg1 ?_ | refine WL_nil ?_)
    refine WL_sr (fun a w h => h.untag 9 rfl) ?_
    repeat (first | refine stp ?_ | refine N_block_pass rfl ?_ | refine sp1 ?_ | refine sg1 ?_ | refine WL_nil ?_)
    refine WL_sr (fun a w h => h.untag 8 rfl) ?_
    refine s_appendKST 95 rfl rfl rfl rfl rfl (by rw [hn]; rfl) Try.underlying24 Try.underlying9 rfl rfl rfl rfl rfl ?_ (by simp) (by omega) ?_ ?_
    · simp [AllP]
    · repeat (first | refine stp ?_ | refine N_block_pass rfl ?_ | refine sp1 ?_ | refine sg1 ?_ | refine WL_nil ?_)
      refine s_storeN rfl rfl rfl rfl rfl (by first | trivial | (simp; done) | (simp; omega) | (simp at *; done) | (simp at *; omega)) rfl rfl rfl (by rw [cellsOf24]; rfl) (by rw [info24]; rfl) rfl rfl ?_
      rw [List.take_length]
      repeat (first | refine stp ?_ | refine N_block_pass rfl ?_ | refine sp1 ?_ | refine sg1 ?_ | refine WL_nil ?_)
      exact N_retM [1] rfl (by trivial) ⟨rfl, ⟨.inr rfl, .inl rfl⟩, rfl, rfl⟩ hb rfl
    · repeat (first | refine stp ?_ | refine N_block_pass rfl ?_ | refine sp1 ?_ | refine sg1 ?_ | refine WL_nil ?_)
      refine s_storeN rfl rfl rfl rfl rfl (by first | trivial | (simp; done) | (simp; omega) | (simp at *; done) | (simp at *; omega)) rfl rfl rfl (by rw [cellsOf24]; rfl) (by rw [info24]; rfl) rfl rfl ?_
      rw [List.take_length]
      repeat (first | refine stp ?_ | refine N_block_pass rfl ?_ | refine sp1 ?_ | refine sg1 ?_ | refine WL_nil ?_)
      exact N_retM [95] rfl (by trivial) ⟨rfl, ⟨.inr rfl, .inl rfl⟩, rfl, rfl⟩ hb rfl
theorem write_ok {p : Cell} (hp : addrOk p) (l q : List Int) (hl : l.length ≤ 1000000) (hq : q.length ≤ 1000000) :
    CtM Try.prog 167 [.c (.tptr 0 232), B8 q] [bldB p l.length, .row (.ints .u8 l)] (.tup [lv (.int .i64 (q.length : Int)), nilE])
      [.cells [.ptr 0 0, .town 2 0 (l.length + q.length) 5], .gone] [.row (.ints .u8 (l ++ q))] := by
  have h1 := check_ok hp l.length l
  have h0 : addrOk p := hp
  rcases hp with rfl | rfl
  all_goals
    refine CtM_intro Try.func167 rfl rfl rfl rfl rfl (fun E hn hb => ?_)
    repeat (first | refine stp ?_ | refine N_block_pass rfl ?_ | refine sp1 ?_ | refine sg1 ?_ | refine WL_nil ?_)
    refine s_call [0, 1] h1 rfl rfl (by rw [hn]; rfl) rfl rfl (by trivial) ⟨rfl, ⟨rfl, rfl⟩, (by simp [ordL]), rfl⟩ ?_
    repeat (first | refine stp ?_ | refine N_block_pass rfl ?_ | refine sp1 ?_ | refine sg1 ?_ | refine WL_nil ?_)
    refine WL_sr (fun a w h => h.untag 9 rfl) ?_
    repeat (first | refine stp ?_ | refine N_block_pass rfl ?_ | refine sp1 ?_ | refine sg1 ?_ | refine WL_nil ?_)
    refine WL_sr (fun a w h => h.untag 8 rfl) ?_
    refine s_appendKT (by_ := 1) 95 rfl rfl rfl rfl rfl (by rw [hn]; rfl) (elt_mk Try.underlying24 rfl rfl) rfl rfl rfl rfl ?_ (by simp) ⟨by first | omega | (simp; omega), by decide⟩ ?_ ?_
    · simp [AllP]
    · repeat (first | refine stp ?_ | refine N_block_pass rfl ?_ | refine sp1 ?_ | refine sg1 ?_ | refine WL_nil ?_)
      refine s_storeN rfl rfl rfl rfl rfl (by first | trivial | (simp; done) | (simp; omega) | (simp at *; done) | (simp at *; omega)) rfl rfl rfl (by rw [cellsOf24]; rfl) (by rw [info24]; rfl) rfl rfl ?_
      rw [Nat.zero_add l.length, List.take_length]
      repeat (first | refine stp ?_ | refine N_block_pass rfl ?_ | refine sp1 ?_ | refine sg1 ?_ | refine WL_nil ?_)
      exact N_retM [1] rfl (by trivial) ⟨rfl, ⟨.inr rfl, .inl rfl⟩, rfl, rfl⟩ hb rfl
    · repeat (first | refine stp ?_ | refine N_block_pass rfl ?_ | refine sp1 ?_ | refine sg1 ?_ | refine WL_nil ?_)
      refine s_storeN rfl rfl rfl rfl rfl (by first | trivial | (simp; done) | (simp; omega) | (simp at *; done) | (simp at *; omega)) rfl rfl rfl (by rw [cellsOf24]; rfl) (by rw [info24]; rfl) rfl rfl ?_
      rw [Nat.zero_add l.length, List.take_length, List.drop_zero]
      repeat (first | refine stp ?_ | refine N_block_pass rfl ?_ | refine sp1 ?_ | refine sg1 ?_ | refine WL_nil ?_)
      exact N_retM [95] rfl (by trivial) ⟨rfl, ⟨.inr rfl, .inl rfl⟩, rfl, rfl⟩ hb rfl
theorem string_ok (l : List Int) (hl : l.length ≤ 1000000) (h0 : l ≠ []) (hw : ∀ x ∈ l, 0 ≤ x ∧ x < 256) :
    CtX Try.prog 169 [.c (.tptr 0 232)] [bldB (.ptr 0 0) l.length, .row (.ints .u8 l)] (lv (.string (strOfNums l))) := by
  refine CtX_intro Try.func169 rfl rfl rfl rfl (fun E hn hb hx => ?_)
  have h1 : Nat.ble 1 l.length = true := by cases l with | nil => exact absurd rfl h0 | cons a l => simp
  repeat (first | refine stp ?_ | refine N_block_pass rfl ?_ | refine sp1 ?_ | refine sg1 ?_ | refine WL_nil ?_)
  refine W_sr (fun a w h => h.untag 0 rfl) ?_
  refine W_drawW 10 (by kernel_rfl) (by kernel_rfl) (by kernel_rfl) (by rw [hn]; rfl) rfl rfl ?_
  repeat (first | refine dp1 ?_ | refine dg1 ?_ | refine DrawW_nil ?_)
  refine DrawW_cons rfl (ops_of (opys_sliceData rfl rfl rfl rfl (by trivial) h1) rfl) ?_
  repeat (first | refine dp1 ?_ | refine dg1 ?_ | refine DrawW_nil ?_)
  refine DrawW_cons rfl (ops_of (opys_lenT rfl rfl rfl rfl Try.underlying24 rfl (by trivial)) rfl) ?_
  repeat (first | refine dp1 ?_ | refine dg1 ?_ | refine DrawW_nil ?_)
  repeat (first | refine stp ?_ | refine N_block_pass rfl ?_ | refine sp1 ?_ | refine sg1 ?_ | refine WL_nil ?_)
  refine s_unsafeStr (l := l) hx rfl rfl rfl rfl rfl rfl (by rw [hn]; rfl) Try.underlying255 cellsOf5 rfl rfl (by trivial) rfl h0 hw (by omega) ?_
  repeat (first | refine stp ?_ | refine N_block_pass rfl ?_ | refine sp1 ?_ | refine sg1 ?_ | refine WL_nil ?_)
  exact N_retX rfl trivial rfl
end Go.Proofs.Ythalijmfhllgbaa

namespace Go.Proofs.Ythalijmfhllgbaa
set_option linter.unusedSimpArgs false
set_option linter.unusedVariables false
open Go.Sx

set_option maxRecDepth 10000

abbrev curL (l : List Int) (p : Nat) : List Leaf := [.ints .u8 l, .v (.int .i64 (p : Int))]
abbrev curD (l : List Int) (p : Nat) : Av := .c (.lf (.obj (curL l p)))
abbrev curB (l : List Int) (p : Nat) : Blk := .cells [.lf (.ints .u8 l), .lf (.v (.int .i64 (p : Int)))]

theorem size_ok (l : List Int) (p : Nat) : Ct Try.prog 138 [curD l p] [] (lv (.int .i64 (l.length : Int))) [] [] := by
  refine Ct_intro Try.func138 rfl rfl rfl rfl rfl (fun E hn hb => ?_)
  repeat (first | refine stp ?_ | refine N_block_pass rfl ?_ | refine sp1 ?_ | refine sg1 ?_ | refine WL_nil ?_)
  exact rt1 []
theorem at_ok (l : List Int) (p : Nat) : Ct Try.prog 50 [curD l p] [] (lv (.int .i64 (p : Int))) [] [] := by
  refine Ct_intro Try.func50 rfl rfl rfl rfl rfl (fun E hn hb => ?_)
  repeat (first | refine stp ?_ | refine N_block_pass rfl ?_ | refine sp1 ?_ | refine sg1 ?_ | refine WL_nil ?_)
  refine WL_q (opq_of (opy_nilP (neg := false) rfl rfl rfl rfl (by first | trivial | (simp; done) | (simp; omega) | (simp at *; done) | (simp at *; omega))) rfl) (by rw [hn]; rfl) ?_
  repeat (first | refine stp ?_ | refine N_block_pass rfl ?_ | refine sp1 ?_ | refine sg1 ?_ | refine WL_nil ?_)
  refine W_cond rfl (by simp) (fun h1 => ?_) (fun h1 => ?_)
  · simp at h1
  repeat (first | refine stp ?_ | refine N_block_pass rfl ?_ | refine sp1 ?_ | refine sg1 ?_ | refine WL_nil ?_)
  exact rt1 []
theorem left_ok (l : List Int) (p : Nat) (hp : p ≤ l.length) (hl : l.length ≤ 9223372036854775807) : Ct Try.prog 93 [curD l p] [] (lv (.int .i64 ((l.length : Int) - (p : Int)))) [] [] := by
  have e : IntKind.i64.wrap ((l.length : Int) - (p : Int)) = (l.length : Int) - (p : Int) := by simp [IntKind.wrap, IntKind.signed, IntKind.bits]; omega
  refine Ct_intro Try.func93 rfl rfl rfl rfl rfl (fun E hn hb => ?_)
  repeat (first | refine stp ?_ | refine N_block_pass rfl ?_ | refine sp1 ?_ | refine sg1 ?_ | refine WL_nil ?_)
  refine WL_q (opq_of (opy_nilP (neg := false) rfl rfl rfl rfl (by first | trivial | (simp; done) | (simp; omega) | (simp at *; done) | (simp at *; omega))) rfl) (by rw [hn]; rfl) ?_
  repeat (first | refine stp ?_ | refine N_block_pass rfl ?_ | refine sp1 ?_ | refine sg1 ?_ | refine WL_nil ?_)
  refine W_cond rfl (by simp) (fun h1 => ?_) (fun h1 => ?_)
  · simp at h1
  repeat (first | refine stp ?_ | refine N_block_pass rfl ?_ | refine sp1 ?_ | refine sg1 ?_ | refine WL_nil ?_)
  refine W_drawP (by kernel_rfl) (by kernel_rfl) (by rw [hn]; rfl) ?_
  repeat (first | refine dp1 ?_ | refine dg1 ?_ | refine DrawW_nil ?_)
  refine DrawW_cons rfl (ops_of (opys_call (size_ok l p) rfl rfl rfl (by first | trivial | (simp; done) | (simp; omega) | (simp at *; done) | (simp at *; omega)) rfl rfl rfl) rfl) ?_
  repeat (first | refine dp1 ?_ | refine dg1 ?_ | refine DrawW_nil ?_)
  repeat (first | refine stp ?_ | refine N_block_pass rfl ?_ | refine sp1 ?_ | refine sg1 ?_ | refine WL_nil ?_)
  exact rt1 []
/-- May so many bytes be taken? -/
def mayF (l : List Int) (p : Nat) (n : Int) : Int := if n < 0 then 1 else if (l.length : Int) - p < n then 3 else 0
theorem may_ok (l : List Int) (p : Nat) (n : Int) (hp : p ≤ l.length) (hl : l.length ≤ 9223372036854775807) : Ct Try.prog 176 [curD l p, lv (.int .i64 n)] [] (lv (.int .i64 (mayF l p n))) [] [] := by
  refine Ct_intro Try.func176 rfl rfl rfl rfl rfl (fun E hn hb => ?_)
  repeat (first | refine stp ?_ | refine N_block_pass rfl ?_ | refine sp1 ?_ | refine sg1 ?_ | refine WL_nil ?_)
  refine WL_q (opq_of (opy_nilP (neg := false) rfl rfl rfl rfl (by first | trivial | (simp; done) | (simp; omega) | (simp at *; done) | (simp at *; omega))) rfl) (by rw [hn]; rfl) ?_
  repeat (first | refine stp ?_ | refine N_block_pass rfl ?_ | refine sp1 ?_ | refine sg1 ?_ | refine WL_nil ?_)
  refine W_cond rfl (by simp) (fun h1 => ?_) (fun h1 => ?_)
  · simp at h1
  repeat (first | refine stp ?_ | refine N_block_pass rfl ?_ | refine sp1 ?_ | refine sg1 ?_ | refine WL_nil ?_)
  refine W_cond rfl (by simp) (fun h2 => ?_) (fun h2 => ?_)
  · have e : mayF l p n = 1 := by
      have : n < 0 := by simpa using h2
      rw [mayF, if_pos this]
    rw [e]
    repeat (first | refine stp ?_ | refine N_block_pass rfl ?_ | refine sp1 ?_ | refine sg1 ?_ | refine WL_nil ?_)
    exact rt1 []
  have n2 : ¬ n < 0 := by simpa using h2
  repeat (first | refine stp ?_ | refine N_block_pass rfl ?_ | refine sp1 ?_ | refine sg1 ?_ | refine WL_nil ?_)
  refine s_call0 (left_ok l p hp hl) rfl rfl rfl (by rw [hn]; rfl) rfl rfl (by first | trivial | (simp; done) | (simp; omega) | (simp at *; done) | (simp at *; omega)) rfl rfl rfl ?_
  repeat (first | refine stp ?_ | refine N_block_pass rfl ?_ | refine sp1 ?_ | refine sg1 ?_ | refine WL_nil ?_)
  refine W_cond rfl (by simp) (fun h3 => ?_) (fun h3 => ?_)
  · have e : mayF l p n = 3 := by
      have : (l.length : Int) - p < n := by simpa using h3
      rw [mayF, if_neg n2, if_pos this]
    rw [e]
    repeat (first | refine stp ?_ | refine N_block_pass rfl ?_ | refine sp1 ?_ | refine sg1 ?_ | refine WL_nil ?_)
    exact rt1 []
  · have e : mayF l p n = 0 := by
      have : ¬ (l.length : Int) - p < n := by simpa using h3
      rw [mayF, if_neg n2, if_neg this]
    rw [e]
    repeat (first | refine stp ?_ | refine N_block_pass rfl ?_ | refine sp1 ?_ | refine sg1 ?_ | refine WL_nil ?_)
    exact rt1 []
theorem peek_ok (l : List Int) (p : Nat) (hp : p < l.length) (hl : l.length ≤ 9223372036854775807) : Ct Try.prog 207 [curD l p] [] (.tup [lv (.int .u8 (l.getD p 0)), lv (.int .i64 0)]) [] [] := by
  refine Ct_intro Try.func207 rfl rfl rfl rfl rfl (fun E hn hb => ?_)
  repeat (first | refine stp ?_ | refine N_block_pass rfl ?_ | refine sp1 ?_ | refine sg1 ?_ | refine WL_nil ?_)
  refine WL_q (opq_of (opy_nilP (neg := false) rfl rfl rfl rfl (by first | trivial | (simp; done) | (simp; omega) | (simp at *; done) | (simp at *; omega))) rfl) (by rw [hn]; rfl) ?_
  repeat (first | refine stp ?_ | refine N_block_pass rfl ?_ | refine sp1 ?_ | refine sg1 ?_ | refine WL_nil ?_)
  refine W_cond rfl (by simp) (fun h1 => ?_) (fun h1 => ?_)
  · simp at h1
  repeat (first | refine stp ?_ | refine N_block_pass rfl ?_ | refine sp1 ?_ | refine sg1 ?_ | refine WL_nil ?_)
  refine s_call0 (left_ok l p (by omega) hl) rfl rfl rfl (by rw [hn]; rfl) rfl rfl (by first | trivial | (simp; done) | (simp; omega) | (simp at *; done) | (simp at *; omega)) rfl rfl rfl ?_
  repeat (first | refine stp ?_ | refine N_block_pass rfl ?_ | refine sp1 ?_ | refine sg1 ?_ | refine WL_nil ?_)
  refine W_cond rfl (by simp) (fun h3 => ?_) (fun h3 => ?_)
  · simp at h3; omega
  repeat (first | refine stp ?_ | refine N_block_pass rfl ?_ | refine sp1 ?_ | refine sg1 ?_ | refine WL_nil ?_)
  refine W_drawW 13 (by kernel_rfl) (by kernel_rfl) (by kernel_rfl) (by rw [hn]; rfl) rfl rfl ?_
  repeat (first | refine dp1 ?_ | refine dg1 ?_ | refine DrawW_nil ?_)
  repeat (first | refine stp ?_ | refine N_block_pass rfl ?_ | refine sp1 ?_ | refine sg1 ?_ | refine WL_nil ?_)
  refine rt2 [] ?_ ?_
  · show Av.tup [lv (.int .u8 (l.getD (p : Int).toNat 0)), lv (.int .i64 0)] = _
    rw [Int.toNat_natCast]
    rfl
  · trivial
theorem peek_end (l : List Int) (hl : l.length ≤ 9223372036854775807) : Ct Try.prog 207 [curD l l.length] [] (.tup [lv (.int .u8 0), lv (.int .i64 3)]) [] [] := by
  refine Ct_intro Try.func207 rfl rfl rfl rfl rfl (fun E hn hb => ?_)
  repeat (first | refine stp ?_ | refine N_block_pass rfl ?_ | refine sp1 ?_ | refine sg1 ?_ | refine WL_nil ?_)
  refine WL_q (opq_of (opy_nilP (neg := false) rfl rfl rfl rfl (by first | trivial | (simp; done) | (simp; omega) | (simp at *; done) | (simp at *; omega))) rfl) (by rw [hn]; rfl) ?_
  repeat (first | refine stp ?_ | refine N_block_pass rfl ?_ | refine sp1 ?_ | refine sg1 ?_ | refine WL_nil ?_)
  refine W_cond rfl (by simp) (fun h1 => ?_) (fun h1 => ?_)
  · simp at h1
  repeat (first | refine stp ?_ | refine N_block_pass rfl ?_ | refine sp1 ?_ | refine sg1 ?_ | refine WL_nil ?_)
  refine s_call0 (left_ok l l.length (by omega) hl) rfl rfl rfl (by rw [hn]; rfl) rfl rfl (by first | trivial | (simp; done) | (simp; omega) | (simp at *; done) | (simp at *; omega)) rfl rfl rfl ?_
  repeat (first | refine stp ?_ | refine N_block_pass rfl ?_ | refine sp1 ?_ | refine sg1 ?_ | refine WL_nil ?_)
  refine W_cond rfl (by simp) (fun h3 => ?_) (fun h3 => ?_)
  · repeat (first | refine stp ?_ | refine N_block_pass rfl ?_ | refine sp1 ?_ | refine sg1 ?_ | refine WL_nil ?_)
    exact rt1 []
  · simp at h3
theorem cut_ok (l : List Int) (p a n : Nat) (h : a + n ≤ l.length) (hl : l.length ≤ 1000000) : Ct Try.prog 148 [curD l p, lv (.int .i64 (a : Int)), lv (.int .i64 ((a : Int) + (n : Int)))] [] (.c (.own 0 1 0 n)) [] [.row (.ints .u8 ((l.drop a).take n))] := by
  have e : IntKind.i64.wrap (((a : Int) + (n : Int)) - (a : Int)) = (n : Int) := by simp [IntKind.wrap, IntKind.signed, IntKind.bits]; omega
  have e2 : ((a : Int) + (n : Int)) - (a : Int) = (n : Int) := by omega
  refine Ct_intro Try.func148 rfl rfl rfl rfl rfl (fun E hn hb => ?_)
  repeat (first | refine stp ?_ | refine N_block_pass rfl ?_ | refine sp1 ?_ | refine sg1 ?_ | refine WL_nil ?_)
  rw [e2]
  refine s_makeI (by_ := 1) rfl rfl rfl (by rw [hn]; rfl) (elt_mk Try.underlying24 rfl rfl) rfl rfl rfl (by first | trivial | (simp; done) | (simp; omega) | (simp at *; done) | (simp at *; omega)) n (by first | rfl | (simp; done) | omega) (by first | (simp; done) | omega | (simp at *; omega)) ?_
  repeat (first | refine stp ?_ | refine N_block_pass rfl ?_ | refine sp1 ?_ | refine sg1 ?_ | refine WL_nil ?_)
  have e3 : (List.take ((a : Int) + (n : Int)).toNat l).drop (a : Int).toNat = (l.drop a).take n := by
    rw [show ((a : Int) + (n : Int)).toNat = a + n by omega, Int.toNat_natCast, List.drop_take, Nat.add_sub_cancel_left]
  rw [e3]
  have hx : ((l.drop a).take n).length = n := by simp; omega
  generalize (l.drop a).take n = x at *
  refine s_copyI rfl rfl rfl rfl rfl rfl (by rw [hn]; rfl) (elt_mk Try.underlying24 rfl rfl) rfl rfl rfl (by first | trivial | (simp; done) | (simp; omega) | (simp at *; done) | (simp at *; omega)) (by first | (simp; done) | (simp; omega) | (simp at *; omega)) ?_
  repeat (first | refine stp ?_ | refine N_block_pass rfl ?_ | refine sp1 ?_ | refine sg1 ?_ | refine WL_nil ?_)
  refine rt2 [75] ?_ ?_
  · rfl
  · have e4 : List.take n x = x := List.take_of_length_le (by omega)
    have e5 : List.take 0 (List.replicate n (0 : Int)) ++ List.take n x ++ List.drop (0 + (List.take n x).length) (List.replicate n (0 : Int)) = x := by
      rw [e4]; simp; omega
    show Blk.row (.ints .u8 (List.take 0 (List.replicate n (0 : Int)) ++ List.take n x ++ List.drop (0 + (List.take n x).length) (List.replicate n (0 : Int)))) = _ 
    rw [e5]
    rfl
end Go.Proofs.Ythalijmfhllgbaa

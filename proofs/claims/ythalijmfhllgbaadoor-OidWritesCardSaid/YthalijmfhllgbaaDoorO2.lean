/-
  Numbers below 100 as text: those that the chapter's examples need. (printed by O2.py)
-/
import Derived.Test.YthalijmfhllgbaaDoorTy
import Derived.Test.YthalijmfhllgbaaDoorSxT
namespace Go.Proofs.YthalijmfhllgbaaDoor
set_option linter.unusedSimpArgs false
set_option linter.unusedVariables false
open Go.Sx

set_option maxRecDepth 10000

theorem opys_lenT {P : Program} {E : Env} {ops : Array Oper} {o : Oper} {σ : St} {c : Call} {x : Operand} {ps : List Prop} {K off len : Nat} {t e u : TypeId} (hop : o.op = .call c) (hc : c.callee = .builtin .len) (ha : c.args = #[x]) (ht : c.argTypes = #[t]) (hu : P.underlying t = some (.slice u)) (hx : ox σ x = (ps, .c (.town K off len e))) (hp : AllP ps) :
    OpYS P E ops o σ (lv (.int .i64 (len : Int))) := by
  intro τ hlk
  have e1 : ox τ x = ox σ x := hlk.ox x (by rw [hop]; simp [Op.operands, Call.operands, hc, ha])
  refine opy_run fun β F a w hS => ?_
  have h1 := oxR hS x
  rw [e1, hx] at h1
  have h1 := h1 hp
  generalize he : a.eval x = v at h1
  dsimp only at h1
  cases h1 with | c h1 => cases h1 with | town _ _ _ _ ad cp hcc hm h =>
  refine ⟨.int .i64 (len : Int), ?_, .c (.lf (.v _ rfl))⟩
  simp only [execOp, hop, resolve, hc, ha, ht, Sem.run_bind, Sem.run_pure, Result.andThen_ok, invoke, builtin]
  simp only [List.map_toArray, List.map_cons, List.map_nil, he]
  simp [Builtin.len_, run_underlying hu, goInt]
abbrev bldB (p : Cell) (n : Nat) : Blk := .cells [p, .town 1 0 n 5]
abbrev nilC : Cell := .lf (.v (.pointer none))
/-- A builder's own address: none yet, or its own. -/
def addrOk (p : Cell) : Prop := p = nilC ∨ p = .ptr 0 0
theorem check_fresh (n : Nat) (l : List Int) : Ct Tryd.prog 59 [.c (.tptr 0 59)] [bldB nilC n, .row (.ints .u8 l)] (.tup []) [bldB (.ptr 0 0) n, .row (.ints .u8 l)] [] := by
  refine Ct_intro Tryd.func59 rfl rfl rfl rfl rfl (fun E hn hb => ?_)
  repeat (first | refine stp ?_ | refine N_block_pass rfl ?_ | refine sp1 ?_ | refine sg1 ?_ | refine WL_nil ?_)
  refine WL_sr (fun a w h => h.untag 2 rfl) ?_
  repeat (first | refine stp ?_ | refine N_block_pass rfl ?_ | refine sp1 ?_ | refine sg1 ?_ | refine WL_nil ?_)
  refine W_cond rfl (by simp) (fun h1 => ?_) (fun h1 => ?_)
  · repeat (first | refine stp ?_ | refine N_block_pass rfl ?_ | refine sp1 ?_ | refine sg1 ?_ | refine WL_nil ?_)
    refine WL_q (opq_of (opy_toU rfl Tryd.underlying57 Tryd.underlying114 (by kernel_rfl) rfl (by trivial) rfl rfl) rfl) (by rw [hn]; rfl) ?_
    refine WL_q (opq_of (opy_noEsc rfl rfl rfl Tryd.func76 (by kernel_rfl) (by kernel_rfl) (by kernel_rfl) (by kernel_rfl) rfl (by trivial)) rfl) (by rw [hn]; rfl) ?_
    refine WL_q (opq_of (opy_fromU rfl Tryd.underlying114 Tryd.underlying57 (by kernel_rfl) (by kernel_rfl) rfl (by trivial) rfl) rfl) (by rw [hn]; rfl) ?_
    refine WL_sr (fun a w h => h.untag 7 rfl) ?_
    repeat (first | refine stp ?_ | refine N_block_pass rfl ?_ | refine sp1 ?_ | refine sg1 ?_ | refine WL_nil ?_)
    refine s_storeN rfl rfl rfl rfl rfl (by first | trivial | (simp; done) | (simp; omega) | (simp at *; done) | (simp at *; omega)) rfl rfl rfl (by rw [cellsOf57]; rfl) (by rw [info57]; rfl) rfl rfl ?_
    repeat (first | refine stp ?_ | refine N_block_pass rfl ?_ | refine sp1 ?_ | refine sg1 ?_ | refine WL_nil ?_)
    exact N_endN [] rfl trivial ⟨rfl, ⟨rfl, rfl⟩, trivial, rfl⟩ hb rfl (by simp [ordL])
  · simp at h1
theorem check_used (n : Nat) (l : List Int) : Ct Tryd.prog 59 [.c (.tptr 0 59)] [bldB (.ptr 0 0) n, .row (.ints .u8 l)] (.tup []) [bldB (.ptr 0 0) n, .row (.ints .u8 l)] [] := by
  refine Ct_intro Tryd.func59 rfl rfl rfl rfl rfl (fun E hn hb => ?_)
  repeat (first | refine stp ?_ | refine N_block_pass rfl ?_ | refine sp1 ?_ | refine sg1 ?_ | refine WL_nil ?_)
  refine WL_sr (fun a w h => h.untag 2 rfl) ?_
  repeat (first | refine stp ?_ | refine N_block_pass rfl ?_ | refine sp1 ?_ | refine sg1 ?_ | refine WL_nil ?_)
  refine WL_q (opq_of (opy_nilP (neg := false) rfl rfl rfl rfl (by first | trivial | (simp; done) | (simp; omega) | (simp at *; done) | (simp at *; omega))) rfl) (by rw [hn]; rfl) ?_
  repeat (first | refine stp ?_ | refine N_block_pass rfl ?_ | refine sp1 ?_ | refine sg1 ?_ | refine WL_nil ?_)
  refine W_cond rfl (by simp) (fun h1 => ?_) (fun h1 => ?_)
  · simp at h1
  · repeat (first | refine stp ?_ | refine N_block_pass rfl ?_ | refine sp1 ?_ | refine sg1 ?_ | refine WL_nil ?_)
    refine WL_sr (fun a w h => h.untag 14 rfl) ?_
    repeat (first | refine stp ?_ | refine N_block_pass rfl ?_ | refine sp1 ?_ | refine sg1 ?_ | refine WL_nil ?_)
    refine WL_q (opq_of (opy_samePtr rfl Tryd.underlying57 rfl rfl rfl (by trivial)) rfl) (by rw [hn]; rfl) ?_
    repeat (first | refine stp ?_ | refine N_block_pass rfl ?_ | refine sp1 ?_ | refine sg1 ?_ | refine WL_nil ?_)
    refine W_cond rfl (by simp) (fun h2 => ?_) (fun h2 => ?_)
    · simp at h2
    · repeat (first | refine stp ?_ | refine N_block_pass rfl ?_ | refine sp1 ?_ | refine sg1 ?_ | refine WL_nil ?_)
      exact N_endN [] rfl trivial ⟨rfl, ⟨rfl, rfl⟩, trivial, rfl⟩ hb rfl (by simp [ordL])
theorem check_ok {p : Cell} (hp : addrOk p) (n : Nat) (l : List Int) : Ct Tryd.prog 59 [.c (.tptr 0 59)] [bldB p n, .row (.ints .u8 l)] (.tup []) [bldB (.ptr 0 0) n, .row (.ints .u8 l)] [] := by
  rcases hp with rfl | rfl
  · exact check_fresh n l
  · exact check_used n l
abbrev nilE : Av := lv .nilIface
theorem writeByte_ok {p : Cell} (hp : addrOk p) (l : List Int) (hl : l.length ≤ 1000000) (c : Int) (hc : 0 ≤ c ∧ c < 256) :
    CtM Tryd.prog 36 [.c (.tptr 0 59), lv (.int .u8 c)] [bldB p l.length, .row (.ints .u8 l)] nilE
      [.cells [.ptr 0 0, .town 2 0 (l.length + 1) 5], .gone] [.row (.ints .u8 (l ++ [c]))] := by
  have h1 := check_ok hp l.length l
  have h0 : addrOk p := hp
  rcases hp with rfl | rfl
  all_goals
    refine CtM_intro Tryd.func36 rfl rfl rfl rfl rfl (fun E hn hb => ?_)
    repeat (first | refine stp ?_ | refine N_block_pass rfl ?_ | refine sp1 ?_ | refine sg1 ?_ | refine WL_nil ?_)
    refine s_call [0, 1] h1 rfl rfl (by rw [hn]; rfl) rfl rfl (by trivial) ⟨rfl, ⟨rfl, rfl⟩, (by simp [ordL]), rfl⟩ ?_
    repeat (first | refine stp ?_ | refine N_block_pass rfl ?_ | refine sp1 ?_ | refine sg1 ?_ | refine WL_nil ?_)
    refine WL_sr (fun a w h => h.untag 8 rfl) ?_
    repeat (first | refine stp ?_ | refine N_block_pass rfl ?_ | refine sp1 ?_ | refine sg1 ?_ | refine WL_nil ?_)
    refine WL_sr (fun a w h => h.untag 7 rfl) ?_
    refine s_litI rfl rfl rfl (by rw [hn]; rfl) (elt_mk Tryd.underlying28 rfl rfl) (zok5) (by first | trivial | (simp; done) | (simp; omega) | (simp at *; done) | (simp at *; omega)) ⟨by decide, rfl⟩ ?_
    repeat (first | refine stp ?_ | refine N_block_pass rfl ?_ | refine sp1 ?_ | refine sg1 ?_ | refine WL_nil ?_)
    refine s_appendKT (by_ := 1) 95 rfl rfl rfl rfl rfl (by rw [hn]; rfl) (elt_mk Tryd.underlying28 rfl rfl) rfl rfl rfl rfl ?_ (by simp) ⟨by simp; omega, by decide⟩ ?_ ?_
    · simp [AllP]
    · repeat (first | refine stp ?_ | refine N_block_pass rfl ?_ | refine sp1 ?_ | refine sg1 ?_ | refine WL_nil ?_)
      refine s_storeN rfl rfl rfl rfl rfl (by first | trivial | (simp; done) | (simp; omega) | (simp at *; done) | (simp at *; omega)) rfl rfl rfl (by rw [cellsOf28]; rfl) (by rw [info28]; rfl) rfl rfl ?_
      rw [Nat.zero_add l.length, List.take_length]
      repeat (first | refine stp ?_ | refine N_block_pass rfl ?_ | refine sp1 ?_ | refine sg1 ?_ | refine WL_nil ?_)
      exact N_retM [1] rfl (by trivial) ⟨rfl, ⟨.inr rfl, .inl rfl⟩, rfl, rfl⟩ hb rfl
    · repeat (first | refine stp ?_ | refine N_block_pass rfl ?_ | refine sp1 ?_ | refine sg1 ?_ | refine WL_nil ?_)
      refine s_storeN rfl rfl rfl rfl rfl (by first | trivial | (simp; done) | (simp; omega) | (simp at *; done) | (simp at *; omega)) rfl rfl rfl (by rw [cellsOf28]; rfl) (by rw [info28]; rfl) rfl rfl ?_
      rw [Nat.zero_add l.length, List.take_length, List.drop_zero]
      repeat (first | refine stp ?_ | refine N_block_pass rfl ?_ | refine sp1 ?_ | refine sg1 ?_ | refine WL_nil ?_)
      exact N_retM [95] rfl (by trivial) ⟨rfl, ⟨.inr rfl, .inl rfl⟩, rfl, rfl⟩ hb rfl
theorem writeString_ok {p : Cell} (hp : addrOk p) (l : List Int) (s : ByteArray) (hl : l.length ≤ 1000000) (hs : s.size ≤ 1000000) :
    CtM Tryd.prog 37 [.c (.tptr 0 59), lv (.string s)] [bldB p l.length, .row (.ints .u8 l)] (.tup [lv (.int .i64 (s.size : Int)), nilE])
      [.cells [.ptr 0 0, .town 2 0 (l.length + s.size) 5], .gone] [.row (.ints .u8 (l ++ strL s))] := by
  have h1 := check_ok hp l.length l
  have h0 : addrOk p := hp
  rcases hp with rfl | rfl
  all_goals
    refine CtM_intro Tryd.func37 rfl rfl rfl rfl rfl (fun E hn hb => ?_)
    repeat (first | refine stp ?_ | refine N_block_pass rfl ?_ | refine sp1 ?_ | refine sg1 ?_ | refine WL_nil ?_)
    refine s_call [0, 1] h1 rfl rfl (by rw [hn]; rfl) rfl rfl (by trivial) ⟨rfl, ⟨rfl, rfl⟩, (by simp [ordL]), rfl⟩ ?_
    repeat (first | refine stp ?_ | refine N_block_pass rfl ?_ | refine sp1 ?_ | refine sg1 ?_ | refine WL_nil ?_)
    refine WL_sr (fun a w h => h.untag 9 rfl) ?_
    repeat (first | refine stp ?_ | refine N_block_pass rfl ?_ | refine sp1 ?_ | refine sg1 ?_ | refine WL_nil ?_)
    refine WL_sr (fun a w h => h.untag 8 rfl) ?_
    refine s_appendKST 95 rfl rfl rfl rfl rfl (by rw [hn]; rfl) Tryd.underlying28 Tryd.underlying9 rfl rfl rfl rfl rfl ?_ (by simp) (by omega) ?_ ?_
    · simp [AllP]
    · repeat (first | refine stp ?_ | refine N_block_pass rfl ?_ | refine sp1 ?_ | refine sg1 ?_ | refine WL_nil ?_)
      refine s_storeN rfl rfl rfl rfl rfl (by first | trivial | (simp; done) | (simp; omega) | (simp at *; done) | (simp at *; omega)) rfl rfl rfl (by rw [cellsOf28]; rfl) (by rw [info28]; rfl) rfl rfl ?_
      rw [List.take_length]
      repeat (first | refine stp ?_ | refine N_block_pass rfl ?_ | refine sp1 ?_ | refine sg1 ?_ | refine WL_nil ?_)
      exact N_retM [1] rfl (by trivial) ⟨rfl, ⟨.inr rfl, .inl rfl⟩, rfl, rfl⟩ hb rfl
    · repeat (first | refine stp ?_ | refine N_block_pass rfl ?_ | refine sp1 ?_ | refine sg1 ?_ | refine WL_nil ?_)
      refine s_storeN rfl rfl rfl rfl rfl (by first | trivial | (simp; done) | (simp; omega) | (simp at *; done) | (simp at *; omega)) rfl rfl rfl (by rw [cellsOf28]; rfl) (by rw [info28]; rfl) rfl rfl ?_
      rw [List.take_length]
      repeat (first | refine stp ?_ | refine N_block_pass rfl ?_ | refine sp1 ?_ | refine sg1 ?_ | refine WL_nil ?_)
      exact N_retM [95] rfl (by trivial) ⟨rfl, ⟨.inr rfl, .inl rfl⟩, rfl, rfl⟩ hb rfl
theorem string_ok (l : List Int) (hl : l.length ≤ 1000000) (h0 : l ≠ []) (hw : ∀ x ∈ l, 0 ≤ x ∧ x < 256) :
    CtX Tryd.prog 39 [.c (.tptr 0 59)] [bldB (.ptr 0 0) l.length, .row (.ints .u8 l)] (lv (.string (strOfNums l))) := by
  refine CtX_intro Tryd.func39 rfl rfl rfl rfl (fun E hn hb hx => ?_)
  have h1 : Nat.ble 1 l.length = true := by cases l with | nil => exact absurd rfl h0 | cons a l => simp
  repeat (first | refine stp ?_ | refine N_block_pass rfl ?_ | refine sp1 ?_ | refine sg1 ?_ | refine WL_nil ?_)
  refine W_sr (fun a w h => h.untag 0 rfl) ?_
  refine W_drawW 10 (by kernel_rfl) (by kernel_rfl) (by kernel_rfl) (by rw [hn]; rfl) rfl rfl ?_
  repeat (first | refine dp1 ?_ | refine dg1 ?_ | refine DrawW_nil ?_)
  refine DrawW_cons rfl (ops_of (opys_sliceData rfl rfl rfl rfl (by trivial) h1) rfl) ?_
  repeat (first | refine dp1 ?_ | refine dg1 ?_ | refine DrawW_nil ?_)
  refine DrawW_cons rfl (ops_of (opys_lenT rfl rfl rfl rfl Tryd.underlying28 rfl (by trivial)) rfl) ?_
  repeat (first | refine dp1 ?_ | refine dg1 ?_ | refine DrawW_nil ?_)
  repeat (first | refine stp ?_ | refine N_block_pass rfl ?_ | refine sp1 ?_ | refine sg1 ?_ | refine WL_nil ?_)
  refine s_unsafeStr (l := l) hx rfl rfl rfl rfl rfl rfl (by rw [hn]; rfl) Tryd.underlying97 cellsOf5 rfl rfl (by trivial) rfl h0 hw (by omega) ?_
  repeat (first | refine stp ?_ | refine N_block_pass rfl ?_ | refine sp1 ?_ | refine sg1 ?_ | refine WL_nil ?_)
  exact N_retX rfl trivial rfl
end Go.Proofs.YthalijmfhllgbaaDoor

namespace Go.Proofs.YthalijmfhllgbaaDoor
set_option linter.unusedSimpArgs false
set_option linter.unusedVariables false
open Go.Sx

set_option maxRecDepth 10000

theorem small_2 : Ct Tryd.prog 88 [lv (.int .i64 2)] [] (lv (.string (ByteArray.mk #[50]))) [] [] := by
  refine Ct_intro Tryd.func88 rfl rfl rfl rfl rfl (fun E hn hb => ?_)
  repeat (first | refine stp ?_ | refine N_block_pass rfl ?_ | refine sp1 ?_ | refine sg1 ?_ | refine WL_nil ?_)
  refine W_cond rfl (by simp) (fun h1 => ?_) (fun h1 => ?_)
  · repeat (first | refine stp ?_ | refine N_block_pass rfl ?_ | refine sp1 ?_ | refine sg1 ?_ | refine WL_nil ?_)
    refine sp true rfl rfl (by rw [hn]; rfl) ?_ ?_
    · refine ⟨by decide, by decide, ?_⟩; show (_ : Int) ≤ _; decide +kernel
    · repeat (first | refine stp ?_ | refine N_block_pass rfl ?_ | refine sp1 ?_ | refine sg1 ?_ | refine WL_nil ?_)
      refine N_retN [] rfl trivial ⟨congrArg (fun s => lv (.string s)) (by decide +kernel), trivial, trivial, rfl⟩ hb rfl trivial
  · exact absurd h1 (by decide)
theorem itoa_2 : Ct Tryd.prog 38 [lv (.int .i64 2)] [] (lv (.string (ByteArray.mk #[50]))) [] [] := by
  have hs := small_2
  have hF : Ct Tryd.prog 77 [lv (.int .i64 2), lv (.int .i64 10)] [] (lv (.string (ByteArray.mk #[50]))) [] [] := by
    refine Ct_intro Tryd.func77 rfl rfl rfl rfl rfl (fun E hn hb => ?_)
    repeat (first | refine stp ?_ | refine N_block_pass rfl ?_ | refine sp1 ?_ | refine sg1 ?_ | refine WL_nil ?_)
    refine W_cond rfl (by simp) (fun h1 => ?_) (fun h1 => ?_)
    · repeat (first | refine stp ?_ | refine N_block_pass rfl ?_ | refine sp1 ?_ | refine sg1 ?_ | refine WL_nil ?_)
      refine W_cond rfl (by simp) (fun h2 => ?_) (fun h2 => ?_)
      · repeat (first | refine stp ?_ | refine N_block_pass rfl ?_ | refine sp1 ?_ | refine sg1 ?_ | refine WL_nil ?_)
        refine s_call0 hs rfl rfl rfl (by rw [hn]; rfl) rfl rfl (by first | trivial | (simp; done) | (simp; omega) | (simp at *; done) | (simp at *; omega)) rfl rfl rfl ?_
        repeat (first | refine stp ?_ | refine N_block_pass rfl ?_ | refine sp1 ?_ | refine sg1 ?_ | refine WL_nil ?_)
        exact rt1 []
      · exact absurd h2 (by decide)
    · exact absurd h1 (by decide)
  have hI : Ct Tryd.prog 60 [lv (.int .i64 2)] [] (lv (.string (ByteArray.mk #[50]))) [] [] := by
    refine Ct_intro Tryd.func60 rfl rfl rfl rfl rfl (fun E hn hb => ?_)
    repeat (first | refine stp ?_ | refine N_block_pass rfl ?_ | refine sp1 ?_ | refine sg1 ?_ | refine WL_nil ?_)
    refine s_call0 hF rfl rfl rfl (by rw [hn]; rfl) rfl rfl (by first | trivial | (simp; done) | (simp; omega) | (simp at *; done) | (simp at *; omega)) rfl rfl rfl ?_
    repeat (first | refine stp ?_ | refine N_block_pass rfl ?_ | refine sp1 ?_ | refine sg1 ?_ | refine WL_nil ?_)
    exact rt1 []
  refine Ct_intro Tryd.func38 rfl rfl rfl rfl rfl (fun E hn hb => ?_)
  repeat (first | refine stp ?_ | refine N_block_pass rfl ?_ | refine sp1 ?_ | refine sg1 ?_ | refine WL_nil ?_)
  refine s_call0 hI rfl rfl rfl (by rw [hn]; rfl) rfl rfl (by first | trivial | (simp; done) | (simp; omega) | (simp at *; done) | (simp at *; omega)) rfl rfl rfl ?_
  repeat (first | refine stp ?_ | refine N_block_pass rfl ?_ | refine sp1 ?_ | refine sg1 ?_ | refine WL_nil ?_)
  exact rt1 []
theorem small_5 : Ct Tryd.prog 88 [lv (.int .i64 5)] [] (lv (.string (ByteArray.mk #[53]))) [] [] := by
  refine Ct_intro Tryd.func88 rfl rfl rfl rfl rfl (fun E hn hb => ?_)
  repeat (first | refine stp ?_ | refine N_block_pass rfl ?_ | refine sp1 ?_ | refine sg1 ?_ | refine WL_nil ?_)
  refine W_cond rfl (by simp) (fun h1 => ?_) (fun h1 => ?_)
  · repeat (first | refine stp ?_ | refine N_block_pass rfl ?_ | refine sp1 ?_ | refine sg1 ?_ | refine WL_nil ?_)
    refine sp true rfl rfl (by rw [hn]; rfl) ?_ ?_
    · refine ⟨by decide, by decide, ?_⟩; show (_ : Int) ≤ _; decide +kernel
    · repeat (first | refine stp ?_ | refine N_block_pass rfl ?_ | refine sp1 ?_ | refine sg1 ?_ | refine WL_nil ?_)
      refine N_retN [] rfl trivial ⟨congrArg (fun s => lv (.string s)) (by decide +kernel), trivial, trivial, rfl⟩ hb rfl trivial
  · exact absurd h1 (by decide)
theorem itoa_5 : Ct Tryd.prog 38 [lv (.int .i64 5)] [] (lv (.string (ByteArray.mk #[53]))) [] [] := by
  have hs := small_5
  have hF : Ct Tryd.prog 77 [lv (.int .i64 5), lv (.int .i64 10)] [] (lv (.string (ByteArray.mk #[53]))) [] [] := by
    refine Ct_intro Tryd.func77 rfl rfl rfl rfl rfl (fun E hn hb => ?_)
    repeat (first | refine stp ?_ | refine N_block_pass rfl ?_ | refine sp1 ?_ | refine sg1 ?_ | refine WL_nil ?_)
    refine W_cond rfl (by simp) (fun h1 => ?_) (fun h1 => ?_)
    · repeat (first | refine stp ?_ | refine N_block_pass rfl ?_ | refine sp1 ?_ | refine sg1 ?_ | refine WL_nil ?_)
      refine W_cond rfl (by simp) (fun h2 => ?_) (fun h2 => ?_)
      · repeat (first | refine stp ?_ | refine N_block_pass rfl ?_ | refine sp1 ?_ | refine sg1 ?_ | refine WL_nil ?_)
        refine s_call0 hs rfl rfl rfl (by rw [hn]; rfl) rfl rfl (by first | trivial | (simp; done) | (simp; omega) | (simp at *; done) | (simp at *; omega)) rfl rfl rfl ?_
        repeat (first | refine stp ?_ | refine N_block_pass rfl ?_ | refine sp1 ?_ | refine sg1 ?_ | refine WL_nil ?_)
        exact rt1 []
      · exact absurd h2 (by decide)
    · exact absurd h1 (by decide)
  have hI : Ct Tryd.prog 60 [lv (.int .i64 5)] [] (lv (.string (ByteArray.mk #[53]))) [] [] := by
    refine Ct_intro Tryd.func60 rfl rfl rfl rfl rfl (fun E hn hb => ?_)
    repeat (first | refine stp ?_ | refine N_block_pass rfl ?_ | refine sp1 ?_ | refine sg1 ?_ | refine WL_nil ?_)
    refine s_call0 hF rfl rfl rfl (by rw [hn]; rfl) rfl rfl (by first | trivial | (simp; done) | (simp; omega) | (simp at *; done) | (simp at *; omega)) rfl rfl rfl ?_
    repeat (first | refine stp ?_ | refine N_block_pass rfl ?_ | refine sp1 ?_ | refine sg1 ?_ | refine WL_nil ?_)
    exact rt1 []
  refine Ct_intro Tryd.func38 rfl rfl rfl rfl rfl (fun E hn hb => ?_)
  repeat (first | refine stp ?_ | refine N_block_pass rfl ?_ | refine sp1 ?_ | refine sg1 ?_ | refine WL_nil ?_)
  refine s_call0 hI rfl rfl rfl (by rw [hn]; rfl) rfl rfl (by first | trivial | (simp; done) | (simp; omega) | (simp at *; done) | (simp at *; omega)) rfl rfl rfl ?_
  repeat (first | refine stp ?_ | refine N_block_pass rfl ?_ | refine sp1 ?_ | refine sg1 ?_ | refine WL_nil ?_)
  exact rt1 []
theorem small_29 : Ct Tryd.prog 88 [lv (.int .i64 29)] [] (lv (.string (ByteArray.mk #[50, 57]))) [] [] := by
  refine Ct_intro Tryd.func88 rfl rfl rfl rfl rfl (fun E hn hb => ?_)
  repeat (first | refine stp ?_ | refine N_block_pass rfl ?_ | refine sp1 ?_ | refine sg1 ?_ | refine WL_nil ?_)
  refine W_cond rfl (by simp) (fun h1 => ?_) (fun h1 => ?_)
  · exact absurd h1 (by decide)
  · repeat (first | refine stp ?_ | refine N_block_pass rfl ?_ | refine sp1 ?_ | refine sg1 ?_ | refine WL_nil ?_)
    refine sp true rfl rfl (by rw [hn]; rfl) ?_ ?_
    · refine ⟨by decide, by decide, ?_⟩; show (_ : Int) ≤ _; decide +kernel
    · repeat (first | refine stp ?_ | refine N_block_pass rfl ?_ | refine sp1 ?_ | refine sg1 ?_ | refine WL_nil ?_)
      refine N_retN [] rfl trivial ⟨congrArg (fun s => lv (.string s)) (by decide +kernel), trivial, trivial, rfl⟩ hb rfl trivial
theorem itoa_29 : Ct Tryd.prog 38 [lv (.int .i64 29)] [] (lv (.string (ByteArray.mk #[50, 57]))) [] [] := by
  have hs := small_29
  have hF : Ct Tryd.prog 77 [lv (.int .i64 29), lv (.int .i64 10)] [] (lv (.string (ByteArray.mk #[50, 57]))) [] [] := by
    refine Ct_intro Tryd.func77 rfl rfl rfl rfl rfl (fun E hn hb => ?_)
    repeat (first | refine stp ?_ | refine N_block_pass rfl ?_ | refine sp1 ?_ | refine sg1 ?_ | refine WL_nil ?_)
    refine W_cond rfl (by simp) (fun h1 => ?_) (fun h1 => ?_)
    · repeat (first | refine stp ?_ | refine N_block_pass rfl ?_ | refine sp1 ?_ | refine sg1 ?_ | refine WL_nil ?_)
      refine W_cond rfl (by simp) (fun h2 => ?_) (fun h2 => ?_)
      · repeat (first | refine stp ?_ | refine N_block_pass rfl ?_ | refine sp1 ?_ | refine sg1 ?_ | refine WL_nil ?_)
        refine s_call0 hs rfl rfl rfl (by rw [hn]; rfl) rfl rfl (by first | trivial | (simp; done) | (simp; omega) | (simp at *; done) | (simp at *; omega)) rfl rfl rfl ?_
        repeat (first | refine stp ?_ | refine N_block_pass rfl ?_ | refine sp1 ?_ | refine sg1 ?_ | refine WL_nil ?_)
        exact rt1 []
      · exact absurd h2 (by decide)
    · exact absurd h1 (by decide)
  have hI : Ct Tryd.prog 60 [lv (.int .i64 29)] [] (lv (.string (ByteArray.mk #[50, 57]))) [] [] := by
    refine Ct_intro Tryd.func60 rfl rfl rfl rfl rfl (fun E hn hb => ?_)
    repeat (first | refine stp ?_ | refine N_block_pass rfl ?_ | refine sp1 ?_ | refine sg1 ?_ | refine WL_nil ?_)
    refine s_call0 hF rfl rfl rfl (by rw [hn]; rfl) rfl rfl (by first | trivial | (simp; done) | (simp; omega) | (simp at *; done) | (simp at *; omega)) rfl rfl rfl ?_
    repeat (first | refine stp ?_ | refine N_block_pass rfl ?_ | refine sp1 ?_ | refine sg1 ?_ | refine WL_nil ?_)
    exact rt1 []
  refine Ct_intro Tryd.func38 rfl rfl rfl rfl rfl (fun E hn hb => ?_)
  repeat (first | refine stp ?_ | refine N_block_pass rfl ?_ | refine sp1 ?_ | refine sg1 ?_ | refine WL_nil ?_)
  refine s_call0 hI rfl rfl rfl (by rw [hn]; rfl) rfl rfl (by first | trivial | (simp; done) | (simp; omega) | (simp at *; done) | (simp at *; omega)) rfl rfl rfl ?_
  repeat (first | refine stp ?_ | refine N_block_pass rfl ?_ | refine sp1 ?_ | refine sg1 ?_ | refine WL_nil ?_)
  exact rt1 []
theorem small_20 : Ct Tryd.prog 88 [lv (.int .i64 20)] [] (lv (.string (ByteArray.mk #[50, 48]))) [] [] := by
  refine Ct_intro Tryd.func88 rfl rfl rfl rfl rfl (fun E hn hb => ?_)
  repeat (first | refine stp ?_ | refine N_block_pass rfl ?_ | refine sp1 ?_ | refine sg1 ?_ | refine WL_nil ?_)
  refine W_cond rfl (by simp) (fun h1 => ?_) (fun h1 => ?_)
  · exact absurd h1 (by decide)
  · repeat (first | refine stp ?_ | refine N_block_pass rfl ?_ | refine sp1 ?_ | refine sg1 ?_ | refine WL_nil ?_)
    refine sp true rfl rfl (by rw [hn]; rfl) ?_ ?_
    · refine ⟨by decide, by decide, ?_⟩; show (_ : Int) ≤ _; decide +kernel
    · repeat (first | refine stp ?_ | refine N_block_pass rfl ?_ | refine sp1 ?_ | refine sg1 ?_ | refine WL_nil ?_)
      refine N_retN [] rfl trivial ⟨congrArg (fun s => lv (.string s)) (by decide +kernel), trivial, trivial, rfl⟩ hb rfl trivial
theorem itoa_20 : Ct Tryd.prog 38 [lv (.int .i64 20)] [] (lv (.string (ByteArray.mk #[50, 48]))) [] [] := by
  have hs := small_20
  have hF : Ct Tryd.prog 77 [lv (.int .i64 20), lv (.int .i64 10)] [] (lv (.string (ByteArray.mk #[50, 48]))) [] [] := by
    refine Ct_intro Tryd.func77 rfl rfl rfl rfl rfl (fun E hn hb => ?_)
    repeat (first | refine stp ?_ | refine N_block_pass rfl ?_ | refine sp1 ?_ | refine sg1 ?_ | refine WL_nil ?_)
    refine W_cond rfl (by simp) (fun h1 => ?_) (fun h1 => ?_)
    · repeat (first | refine stp ?_ | refine N_block_pass rfl ?_ | refine sp1 ?_ | refine sg1 ?_ | refine WL_nil ?_)
      refine W_cond rfl (by simp) (fun h2 => ?_) (fun h2 => ?_)
      · repeat (first | refine stp ?_ | refine N_block_pass rfl ?_ | refine sp1 ?_ | refine sg1 ?_ | refine WL_nil ?_)
        refine s_call0 hs rfl rfl rfl (by rw [hn]; rfl) rfl rfl (by first | trivial | (simp; done) | (simp; omega) | (simp at *; done) | (simp at *; omega)) rfl rfl rfl ?_
        repeat (first | refine stp ?_ | refine N_block_pass rfl ?_ | refine sp1 ?_ | refine sg1 ?_ | refine WL_nil ?_)
        exact rt1 []
      · exact absurd h2 (by decide)
    · exact absurd h1 (by decide)
  have hI : Ct Tryd.prog 60 [lv (.int .i64 20)] [] (lv (.string (ByteArray.mk #[50, 48]))) [] [] := by
    refine Ct_intro Tryd.func60 rfl rfl rfl rfl rfl (fun E hn hb => ?_)
    repeat (first | refine stp ?_ | refine N_block_pass rfl ?_ | refine sp1 ?_ | refine sg1 ?_ | refine WL_nil ?_)
    refine s_call0 hF rfl rfl rfl (by rw [hn]; rfl) rfl rfl (by first | trivial | (simp; done) | (simp; omega) | (simp at *; done) | (simp at *; omega)) rfl rfl rfl ?_
    repeat (first | refine stp ?_ | refine N_block_pass rfl ?_ | refine sp1 ?_ | refine sg1 ?_ | refine WL_nil ?_)
    exact rt1 []
  refine Ct_intro Tryd.func38 rfl rfl rfl rfl rfl (fun E hn hb => ?_)
  repeat (first | refine stp ?_ | refine N_block_pass rfl ?_ | refine sp1 ?_ | refine sg1 ?_ | refine WL_nil ?_)
  refine s_call0 hI rfl rfl rfl (by rw [hn]; rfl) rfl rfl (by first | trivial | (simp; done) | (simp; omega) | (simp at *; done) | (simp at *; omega)) rfl rfl rfl ?_
  repeat (first | refine stp ?_ | refine N_block_pass rfl ?_ | refine sp1 ?_ | refine sg1 ?_ | refine WL_nil ?_)
  exact rt1 []
end Go.Proofs.YthalijmfhllgbaaDoor

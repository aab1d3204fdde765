/-
  strings.Builder: its methods. The conditions: texts that a machine can hold.
-/
import Derived.Test.YthalijmfhllgbaaTy
import Derived.Test.YthalijmfhllgbaaSxT
namespace Go.Proofs.Ythalijmfhllgbaa
set_option linter.unusedSimpArgs false
set_option linter.unusedVariables false
open Go.Sx

set_option maxRecDepth 10000
abbrev B8 (l : List Int) : Av := .c (.lf (.ints .u8 l))
/-- Which of two rows comes first. -/
def cmpL : List Int → List Int → Int
  | [], [] => 0
  | [], _ :: _ => -1
  | _ :: _, [] => 1
  | x :: a, y :: b => if x < y then -1 else if y < x then 1 else cmpL a b

set_option maxHeartbeats 4000000 in
theorem compare_ok (a b : List Int) (ha : a.length ≤ 1000000) (hb' : b.length ≤ 1000000) : Ct Try.prog 90 [B8 a, B8 b] [] (lv (.int .i64 (cmpL a b))) [] [] := by
  refine Ct_intro Try.func90 rfl rfl rfl rfl rfl (fun E hn hb => ?_)
  repeat (first | refine stp ?_ | refine N_block_pass rfl ?_ | refine sp1 ?_ | refine sg1 ?_ | refine WL_nil ?_)
  refine W_weaken (St.le_of (l := [(0, B8 a), (1, B8 b), (5, lv (.int .i64 0))]) (h := []) (by refine ⟨?_, ?_⟩ <;> (repeat' (first | exact trivial | exact rfl | refine ⟨?_, ?_⟩)) <;> first | exact rfl | (simp; done) | skip)) ?_
  refine W_loop (ι := {i : Nat // i ≤ 1000000 ∧ cmpL (a.drop i) (b.drop i) = cmpL a b}) (fun i => St.of [(0, B8 a), (1, B8 b), (5, lv (.int .i64 (i.1 : Int)))] []) (fun i => 1000001 - i.1) (fun i => ?_) ⟨0, by omega, rfl⟩
  obtain ⟨i, hi, he⟩ := i
  dsimp only
  repeat (first | refine stp ?_ | refine N_block_pass rfl ?_ | refine sp1 ?_ | refine sg1 ?_ | refine WL_nil ?_)
  refine W_cond rfl (by simp) (fun hc => ?_) (fun hc => ?_)
  · simp at hc
    repeat (first | refine stp ?_ | refine N_block_pass rfl ?_ | refine sp1 ?_ | refine sg1 ?_ | refine WL_nil ?_)
    refine W_drawW 21 (by kernel_rfl) (by kernel_rfl) (by kernel_rfl) (by rw [hn]; rfl) rfl rfl ?_
    repeat (first | refine dp1 ?_ | refine dg1 ?_ | refine DrawW_nil ?_)
    repeat (first | refine stp ?_ | refine N_block_pass rfl ?_ | refine sp1 ?_ | refine sg1 ?_ | refine WL_nil ?_)
    have key : ∀ x : List Int, i < x.length → x.drop i = x.getD i 0 :: x.drop (i + 1) := fun x h => by
      rw [List.drop_eq_getElem_cons h]; simp [h]
    refine W_cond rfl (by simp) (fun hd => ?_) (fun hd => ?_)
    · repeat (first | refine stp ?_ | refine N_block_pass rfl ?_ | refine sp1 ?_ | refine sg1 ?_ | refine WL_nil ?_)
      refine rt2 [] ?_ ?_
      · have : cmpL a b = -1 := by
          rw [← he]
          by_cases h1 : i < a.length
          · have h2 : i < b.length ∧ a.getD i 0 < b.getD i 0 := by
              have : ¬ a.length ≤ i := by omega
              simpa [this, Bool.cond_eq_ite] using hd
            rw [key a h1, key b h2.1]
            simp only [cmpL, h2.2, if_true]
          · rw [List.drop_eq_nil_of_le (by omega), key b (by omega)]; rfl
        rw [this]; rfl
      · trivial
    · repeat (first | refine stp ?_ | refine N_block_pass rfl ?_ | refine sp1 ?_ | refine sg1 ?_ | refine WL_nil ?_)
      have hia : i < a.length ∧ (i < b.length → ¬ a.getD i 0 < b.getD i 0) := by
        rcases Nat.lt_or_ge i a.length with h | h
        · have : ¬ a.length ≤ i := by omega
          refine ⟨h, fun hib => ?_⟩
          simpa [this, hib, Bool.cond_eq_ite] using hd
        · simp [h, Bool.cond_eq_ite] at hd
      clear hd
      refine W_drawW 15 (by kernel_rfl) (by kernel_rfl) (by kernel_rfl) (by rw [hn]; rfl) rfl rfl ?_
      repeat (first | refine dp1 ?_ | refine dg1 ?_ | refine DrawW_nil ?_)
      repeat (first | refine stp ?_ | refine N_block_pass rfl ?_ | refine sp1 ?_ | refine sg1 ?_ | refine WL_nil ?_)
      refine W_cond rfl (by simp) (fun hd => ?_) (fun hd => ?_)
      · repeat (first | refine stp ?_ | refine N_block_pass rfl ?_ | refine sp1 ?_ | refine sg1 ?_ | refine WL_nil ?_)
        refine rt2 [] ?_ ?_
        · have : cmpL a b = 1 := by
            rw [← he, key a hia.1]
            by_cases h1 : i < b.length
            · have h2 : b.getD i 0 < a.getD i 0 := by
                have : ¬ b.length ≤ i := by omega
                simpa [this, Bool.cond_eq_ite] using hd
              rw [key b h1]
              simp only [cmpL, hia.2 h1, h2, if_true, if_false]
            · rw [List.drop_eq_nil_of_le (by omega : b.length ≤ i)]; rfl
          rw [this]; rfl
        · trivial
      · repeat (first | refine stp ?_ | refine N_block_pass rfl ?_ | refine sp1 ?_ | refine sg1 ?_ | refine WL_nil ?_)
        have h1 : i < b.length ∧ ¬ b.getD i 0 < a.getD i 0 := by
          rcases Nat.lt_or_ge i b.length with h | h
          · have : ¬ b.length ≤ i := by omega
            refine ⟨h, ?_⟩
            simpa [this, Bool.cond_eq_ite] using hd
          · simp [h, Bool.cond_eq_ite] at hd
        (refine N_round ?i1 ?i2 ?i3; (case i1 => exact ⟨i + 1, by omega, by rw [← he, key a hia.1, key b h1.1]; simp only [cmpL, hia.2 h1.1, h1.2, if_false]⟩); (case i2 => (dsimp only; omega)); (case i3 => refine St.le_of ⟨?_, ?_⟩ <;> (repeat' (first | exact trivial | exact rfl | refine ⟨?_, ?_⟩)) <;> first | exact rfl | (simp; done) | skip))
  · repeat (first | refine stp ?_ | refine N_block_pass rfl ?_ | refine sp1 ?_ | refine sg1 ?_ | refine WL_nil ?_)
    refine rt2 [] ?_ ?_
    · have : cmpL a b = 0 := by
        rw [← he, List.drop_eq_nil_of_le (by simp at hc; omega), List.drop_eq_nil_of_le (by simp at hc; omega)]; rfl
      rw [this]; rfl
    · trivial

theorem cmpL_eq : ∀ a b : List Int, cmpL a b = 0 ↔ a = b
  | [], [] => by simp [cmpL]
  | [], y :: b => by simp [cmpL]
  | x :: a, [] => by simp [cmpL]
  | x :: a, y :: b => by
    simp only [cmpL, List.cons.injEq]
    rw [← cmpL_eq a b]
    split
    · simp; omega
    · split
      · simp; omega
      · have : x = y := by omega
        simp [this]

theorem same_ok (a b : List Int) (ha : a.length ≤ 1000000) (hb' : b.length ≤ 1000000) : Ct Try.prog 36 [B8 a, B8 b] [] (lv (.bool (decide (a = b)))) [] [] := by
  refine Ct_intro Try.func36 rfl rfl rfl rfl rfl (fun E hn hb => ?_)
  repeat (first | refine stp ?_ | refine N_block_pass rfl ?_ | refine sp1 ?_ | refine sg1 ?_ | refine WL_nil ?_)
  refine s_call0 (compare_ok a b ha hb') rfl rfl rfl (by rw [hn]; rfl) rfl rfl (by first | trivial | (simp; done) | (simp; omega) | (simp at *; done) | (simp at *; omega)) rfl rfl rfl ?_
  repeat (first | refine stp ?_ | refine N_block_pass rfl ?_ | refine sp1 ?_ | refine sg1 ?_ | refine WL_nil ?_)
  refine rt2 [] ?_ ?_
  · have : (cmpL a b == 0) = decide (a = b) := by
      rw [Bool.eq_iff_iff]; simp [cmpL_eq]
    rw [← this]; rfl
  · trivial
end Go.Proofs.Ythalijmfhllgbaa

namespace Go.Proofs.Ythalijmfhllgbaa
set_option linter.unusedSimpArgs false
set_option linter.unusedVariables false
open Go.Sx

set_option maxRecDepth 10000

theorem opys_lenT {P : Program} {E : Env} {ops : Array Oper} {o : Oper} {σ : St} {c : Call} {x : Operand} {ps : List Prop} {K off len : Nat} {t e u : TypeId} (hop : o.op = .call c) (hc : c.callee = .builtin .len) (ha : c.args = #[x]) (ht : c.argTypes = #[t]) (hu : P.underlying t = some (.slice u)) (hx : ox σ x = (ps, .c (.town K off len e))) (hp : AllP ps) :
    OpYS P E ops o σ (lv (.int .i64 (len : Int))) := by
  intro τ hlk
  have e1 : ox τ x = ox σ x := hlk.ox x (by rw [hop]; simp [Op.operands, Call.operands, hc, ha])
  refine opy_run fun β F a w hS => ?_
  have h1 := oxR hS x
  rw [e1, hx] at h1
  have h1 := h1 hp
  generalize he : a.eval x = v at h1
  dsimp only at h1
  cases h1 with | c h1 => cases h1 with | town _ _ _ _ ad cp hcc hm h =>
  refine ⟨.int .i64 (len : Int), ?_, .c (.lf (.v _ rfl))⟩
  simp only [execOp, hop, resolve, hc, ha, ht, Sem.run_bind, Sem.run_pure, Result.andThen_ok, invoke, builtin]
  simp only [List.map_toArray, List.map_cons, List.map_nil, he]
  simp [Builtin.len_, run_underlying hu, goInt]
abbrev bldB (p : Cell) (n : Nat) : Blk := .cells [p, .town 1 0 n 5]
abbrev nilC : Cell := .lf (.v (.pointer none))
/-- A builder's own address: none yet, or its own. -/
def addrOk (p : Cell) : Prop := p = nilC ∨ p = .ptr 0 0
theorem check_fresh (n : Nat) (l : List Int) : Ct Try.prog 191 [.c (.tptr 0 232)] [bldB nilC n, .row (.ints .u8 l)] (.tup []) [bldB (.ptr 0 0) n, .row (.ints .u8 l)] [] := by
  refine Ct_intro Try.func191 rfl rfl rfl rfl rfl (fun E hn hb => ?_)
  repeat (first | refine stp ?_ | refine N_block_pass rfl ?_ | refine sp1 ?_ | refine sg1 ?_ | refine WL_nil ?_)
  refine WL_sr (fun a w h => h.untag 2 rfl) ?_
  repeat (first | refine stp ?_ | refine N_block_pass rfl ?_ | refine sp1 ?_ | refine sg1 ?_ | refine WL_nil ?_)
  refine W_cond rfl (by simp) (fun h1 => ?_) (fun h1 => ?_)
  · repeat (first | refine stp ?_ | refine N_block_pass rfl ?_ | refine sp1 ?_ | refine sg1 ?_ | refine WL_nil ?_)
    have ht : ((Try.prog.info? 232).map fun i => Nat.ble 1 i.size) = some true := by kernel_rfl
    have h3 : Try.prog.underlying 230 = some (.pointer 232) := Try.underlying230
    have h4 : Try.prog.underlying 263 = some .unsafePointer := Try.underlying263
    have h5 : (Try.prog.info? 232).isSome = true := by kernel_rfl
    have h6 : liesAt Try.prog Try.prog.depth 232 (([nilC, .town 1 0 n 5] : List Cell).length / Try.prog.cellsOf 232) 0 232 1 = true := by kernel_rfl
    refine WL_q (opq_of (opy_toU rfl h3 h4 ht rfl (by trivial) rfl rfl) rfl) (by rw [hn]; rfl) ?_
    have g1 : (Try.f206.name == "runtime.NumGoroutine") = false := by kernel_rfl
    have g2 : Try.f206.body.isNone = true := by kernel_rfl
    have g3 : Extern.findNext Try.f206 = none := by kernel_rfl
    have g4 : Extern.find Try.f206 = some Extern.AbiNoEscape.same := by kernel_rfl
    refine WL_q (x := .c (.tptr 0 232)) ?_ (by rw [hn]; rfl) ?_
    · refine opq_of ?_ rfl
      refine opy_noEsc (c := { callee := .value (.func 206), args := #[.tmp 9], argTypes := #[263] }) (x := .tmp 9) (f := 206) (fn := Try.f206) (ps := []) ?_ ?_ ?_ ?_ ?_ ?_ ?_ ?_ ?_ ?_
      · exact rfl
      · exact rfl
      · exact rfl
      · exact Try.func206
      · exact g1
      · exact g2
      · exact g3
      · exact g4
      · exact rfl
      · trivial
    refine WL_q (opq_of (opy_fromU (cs := [nilC, .town 1 0 n 5]) rfl h4 h3 h5 h6 rfl (by trivial) rfl) rfl) (by rw [hn]; rfl) ?_
    refine WL_sr (fun a w h => h.untag 7 rfl) ?_
    repeat (first | refine stp ?_ | refine N_block_pass rfl ?_ | refine sp1 ?_ | refine sg1 ?_ | refine WL_nil ?_)
    refine s_storeN rfl rfl rfl rfl rfl (by first | trivial | (simp; done) | (simp; omega) | (simp at *; done) | (simp at *; omega)) rfl rfl rfl (by rw [cellsOf230]; rfl) (by rw [info230]; rfl) rfl rfl ?_
    repeat (first | refine stp ?_ | refine N_block_pass rfl ?_ | refine sp1 ?_ | refine sg1 ?_ | refine WL_nil ?_)
    exact N_endN [] rfl trivial ⟨rfl, ⟨rfl, rfl⟩, trivial, rfl⟩ hb rfl (by simp [ordL])
  · simp at h1
theorem check_used (n : Nat) (l : List Int) : Ct Try.prog 191 [.c (.tptr 0 232)] [bldB (.ptr 0 0) n, .row (.ints .u8 l)] (.tup []) [bldB (.ptr 0 0) n, .row (.ints .u8 l)] [] := by
  refine Ct_intro Try.func191 rfl rfl rfl rfl rfl (fun E hn hb => ?_)
  repeat (first | refine stp ?_ | refine N_block_pass rfl ?_ | refine sp1 ?_ | refine sg1 ?_ | refine WL_nil ?_)
  refine WL_sr (fun a w h => h.untag 2 rfl) ?_
  repeat (first | refine stp ?_ | refine N_block_pass rfl ?_ | refine sp1 ?_ | refine sg1 ?_ | refine WL_nil ?_)
  refine WL_q (opq_of (opy_nilP (neg := false) rfl rfl rfl rfl (by first | trivial | (simp; done) | (simp; omega) | (simp at *; done) | (simp at *; omega))) rfl) (by rw [hn]; rfl) ?_
  repeat (first | refine stp ?_ | refine N_block_pass rfl ?_ | refine sp1 ?_ | refine sg1 ?_ | refine WL_nil ?_)
  refine W_cond rfl (by simp) (fun h1 => ?_) (fun h1 => ?_)
  · simp at h1
  · repeat (first | refine stp ?_ | refine N_block_pass rfl ?_ | refine sp1 ?_ | refine sg1 ?_ | refine WL_nil ?_)
    refine WL_sr (fun a w h => h.untag 14 rfl) ?_
    repeat (first | refine stp ?_ | refine N_block_pass rfl ?_ | refine sp1 ?_ | refine sg1 ?_ | refine WL_nil ?_)
    refine WL_q (opq_of (opy_samePtr rfl Try.underlying230 rfl rfl rfl (by trivial)) rfl) (by rw [hn]; rfl) ?_
    repeat (first | refine stp ?_ | refine N_block_pass rfl ?_ | refine sp1 ?_ | refine sg1 ?_ | refine WL_nil ?_)
    refine W_cond rfl (by simp) (fun h2 => ?_) (fun h2 => ?_)
    · simp at h2
    · repeat (first | refine stp ?_ | refine N_block_pass rfl ?_ | refine sp1 ?_ | refine sg1 ?_ | refine WL_nil ?_)
      exact N_endN [] rfl trivial ⟨rfl, ⟨rfl, rfl⟩, trivial, rfl⟩ hb rfl (by simp [ordL])
theorem check_ok {p : Cell} (hp : addrOk p) (n : Nat) (l : List Int) : Ct Try.prog 191 [.c (.tptr 0 232)] [bldB p n, .row (.ints .u8 l)] (.tup []) [bldB (.ptr 0 0) n, .row (.ints .u8 l)] [] := by
  rcases hp with rfl | rfl
  · exact check_fresh n l
  · exact check_used n l
abbrev nilE : Av := lv .nilIface
theorem writeString_ok {p : Cell} (hp : addrOk p) (l : List Int) (s : ByteArray) (hl : l.length ≤ 1000000) (hs : s.size ≤ 1000000) :
    CtM Try.prog 168 [.c (.tptr 0 232), lv (.string s)] [bldB p l.length, .row (.ints .u8 l)] (.tup [lv (.int .i64 (s.size : Int)), nilE])
      [.cells [.ptr 0 0, .town 2 0 (l.length + s.size) 5], .gone] [.row (.ints .u8 (l ++ strL s))] := by
  have h1 := check_ok hp l.length l
  have h0 : addrOk p := hp
  rcases hp with rfl | rfl
  all_goals
    refine CtM_intro Try.func168 rfl rfl rfl rfl rfl (fun E hn hb => ?_)
    repeat (first | refine stp ?_ | refine N_block_pass rfl ?_ | refine sp1 ?_ | refine sg1 ?_ | refine WL_nil ?_)
    refine s_call [0, 1] h1 rfl rfl (by rw [hn]; rfl) rfl rfl (by trivial) ⟨rfl, ⟨rfl, rfl⟩, (by simp [ordL]), rfl⟩ ?_
    repeat (first | refine stp ?_ | refine N_block_pass rfl ?_ | refine sp1 ?_ | refine sg1 ?_ | refine WL_nil ?_)
    refine WL_sr (fun a w h => h.untag 9 rfl) ?_
    repeat (first | refine stp ?_ | refine N_block_pass rfl ?_ | refine sp1 ?_ | refine sg1 ?_ | refine WL_nil ?_)
    refine WL_sr (fun a w h => h.untag 8 rfl) ?_
    refine s_appendKST 95 rfl rfl rfl rfl rfl (by rw [hn]; rfl) Try.underlying24 Try.underlying9 rfl rfl rfl rfl rfl ?_ (by simp) (by omega) ?_ ?_
    · simp [AllP]
    · repeat (first | refine stp ?_ | refine N_block_pass rfl ?_ | refine sp1 ?_ | refine sg1 ?_ | refine WL_nil ?_)
      refine s_storeN rfl rfl rfl rfl rfl (by first | trivial | (simp; done) | (simp; omega) | (simp at *; done) | (simp at *; omega)) rfl rfl rfl (by rw [cellsOf24]; rfl) (by rw [info24]; rfl) rfl rfl ?_
      rw [List.take_length]
      repeat (first | refine stp ?_ | refine N_block_pass rfl ?_ | refine sp1 ?_ | refine sg1 ?_ | refine WL_nil ?_)
      exact N_retM [1] rfl (by trivial) ⟨rfl, ⟨.inr rfl, .inl rfl⟩, rfl, rfl⟩ hb rfl
    · repeat (first | refine stp ?_ | refine N_block_pass rfl ?_ | refine sp1 ?_ | refine sg1 ?_ | refine WL_nil ?_)
      refine s_storeN rfl rfl rfl rfl rfl (by first | trivial | (simp; done) | (simp; omega) | (simp at *; done) | (simp at *; omega)) rfl rfl rfl (by rw [cellsOf24]; rfl) (by rw [info24]; rfl) rfl rfl ?_
      rw [List.take_length]
      repeat (first | refine stp ?_ | refine N_block_pass rfl ?_ | refine sp1 ?_ | refine sg1 ?_ | refine WL_nil ?_)
      exact N_retM [95] rfl (by trivial) ⟨rfl, ⟨.inr rfl, .inl rfl⟩, rfl, rfl⟩ hb rfl
theorem write_ok {p : Cell} (hp : addrOk p) (l q : List Int) (hl : l.length ≤ 1000000) (hq : q.length ≤ 1000000) :
    CtM Try.prog 167 [.c (.tptr 0 232), B8 q] [bldB p l.length, .row (.ints .u8 l)] (.tup [lv (.int .i64 (q.length : Int)), nilE])
      [.cells [.ptr 0 0, .town 2 0 (l.length + q.length) 5], .gone] [.row (.ints .u8 (l ++ q))] := by
  have h1 := check_ok hp l.length l
  have h0 : addrOk p := hp
  rcases hp with rfl | rfl
  all_goals
    refine CtM_intro Try.func167 rfl rfl rfl rfl rfl (fun E hn hb => ?_)
    repeat (first | refine stp ?_ | refine N_block_pass rfl ?_ | refine sp1 ?_ | refine sg1 ?_ | refine WL_nil ?_)
    refine s_call [0, 1] h1 rfl rfl (by rw [hn]; rfl) rfl rfl (by trivial) ⟨rfl, ⟨rfl, rfl⟩, (by simp [ordL]), rfl⟩ ?_
    repeat (first | refine stp ?_ | refine N_block_pass rfl ?_ | refine sp1 ?_ | refine sg1 ?_ | refine WL_nil ?_)
    refine WL_sr (fun a w h => h.untag 9 rfl) ?_
    repeat (first | refine stp ?_ | refine N_block_pass rfl ?_ | refine sp1 ?_ | refine sg1 ?_ | refine WL_nil ?_)
    refine WL_sr (fun a w h => h.untag 8 rfl) ?_
    refine s_appendKT (by_ := 1) 95 rfl rfl rfl rfl rfl (by rw [hn]; rfl) (elt_mk Try.underlying24 rfl rfl) rfl rfl rfl rfl ?_ (by simp) ⟨by first | omega | (simp; omega), by decide⟩ ?_ ?_
    · simp [AllP]
    · repeat (first | refine stp ?_ | refine N_block_pass rfl ?_ | refine sp1 ?_ | refine sg1 ?_ | refine WL_nil ?_)
      refine s_storeN rfl rfl rfl rfl rfl (by first | trivial | (simp; done) | (simp; omega) | (simp at *; done) | (simp at *; omega)) rfl rfl rfl (by rw [cellsOf24]; rfl) (by rw [info24]; rfl) rfl rfl ?_
      rw [Nat.zero_add l.length, List.take_length]
      repeat (first | refine stp ?_ | refine N_block_pass rfl ?_ | refine sp1 ?_ | refine sg1 ?_ | refine WL_nil ?_)
      exact N_retM [1] rfl (by trivial) ⟨rfl, ⟨.inr rfl, .inl rfl⟩, rfl, rfl⟩ hb rfl
    · repeat (first | refine stp ?_ | refine N_block_pass rfl ?_ | refine sp1 ?_ | refine sg1 ?_ | refine WL_nil ?_)
      refine s_storeN rfl rfl rfl rfl rfl (by first | trivial | (simp; done) | (simp; omega) | (simp at *; done) | (simp at *; omega)) rfl rfl rfl (by rw [cellsOf24]; rfl) (by rw [info24]; rfl) rfl rfl ?_
      rw [Nat.zero_add l.length, List.take_length, List.drop_zero]
      repeat (first | refine stp ?_ | refine N_block_pass rfl ?_ | refine sp1 ?_ | refine sg1 ?_ | refine WL_nil ?_)
      exact N_retM [95] rfl (by trivial) ⟨rfl, ⟨.inr rfl, .inl rfl⟩, rfl, rfl⟩ hb rfl
theorem string_ok (l : List Int) (hl : l.length ≤ 1000000) (h0 : l ≠ []) (hw : ∀ x ∈ l, 0 ≤ x ∧ x < 256) :
    CtX Try.prog 169 [.c (.tptr 0 232)] [bldB (.ptr 0 0) l.length, .row (.ints .u8 l)] (lv (.string (strOfNums l))) := by
  refine CtX_intro Try.func169 rfl rfl rfl rfl (fun E hn hb hx => ?_)
  have h1 : Nat.ble 1 l.length = true := by cases l with | nil => exact absurd rfl h0 | cons a l => simp
  repeat (first | refine stp ?_ | refine N_block_pass rfl ?_ | refine sp1 ?_ | refine sg1 ?_ | refine WL_nil ?_)
  refine W_sr (fun a w h => h.untag 0 rfl) ?_
  refine W_drawW 10 (by kernel_rfl) (by kernel_rfl) (by kernel_rfl) (by rw [hn]; rfl) rfl rfl ?_
  repeat (first | refine dp1 ?_ | refine dg1 ?_ | refine DrawW_nil ?_)
  refine DrawW_cons rfl (ops_of (opys_sliceData rfl rfl rfl rfl (by trivial) h1) rfl) ?_
  repeat (first | refine dp1 ?_ | refine dg1 ?_ | refine DrawW_nil ?_)
  refine DrawW_cons rfl (ops_of (opys_lenT rfl rfl rfl rfl Try.underlying24 rfl (by trivial)) rfl) ?_
  repeat (first | refine dp1 ?_ | refine dg1 ?_ | refine DrawW_nil ?_)
  repeat (first | refine stp ?_ | refine N_block_pass rfl ?_ | refine sp1 ?_ | refine sg1 ?_ | refine WL_nil ?_)
  refine s_unsafeStr (l := l) hx rfl rfl rfl rfl rfl rfl (by rw [hn]; rfl) Try.underlying255 cellsOf5 rfl rfl (by trivial) rfl h0 hw (by omega) ?_
  repeat (first | refine stp ?_ | refine N_block_pass rfl ?_ | refine sp1 ?_ | refine sg1 ?_ | refine WL_nil ?_)
  exact N_retX rfl trivial rfl
end Go.Proofs.Ythalijmfhllgbaa

/-
  Chapter 03: contents of a number, and the number of contents. The conditions: rows of at most a million bytes.
-/
import Derived.Test.YthalijmfhllgbaaDoorSxK
import Derived.Laws.StructEq
import Derived.Scope
import Derived.Test.YthalijmfhllgbaaDoorTy
namespace Go.Sx
open Go
set_option linter.unusedVariables false
set_option linter.unusedSimpArgs false

/-- The ghost step, told with its parts. -/
theorem SRb.freeze0 {E : Env} {β : Nat → Option Nat} {F : Nat → Prop} {σ : St} {a : Act} {w : World} (h : SRb E β F σ a w) {j : Nat} {d : Leaf} (hj : σ.hp j = .row d) (hjn : E.nb ≤ j) (hl : ∀ i, i < E.nb → σ.hp i ≠ .gone) :
    SRb E (fun i => if i = j then none else β i) (fun b => F b ∨ β j = some b) (σ.kill j) a w := by
  have hgone : σ.hp j ≠ .gone := by rw [hj]; intro h; cases h
  have hB := h.hp j
  rw [hj] at hB
  let β' : Nat → Option Nat := fun i => if i = j then none else β i
  let F' : Nat → Prop := fun b => F b ∨ β j = some b
  have hβ : ∀ i, i ≠ j → β' i = β i := fun i hi => if_neg hi
  have hk := h.kill j hjn
  have hF : ∀ b, F b → F' b := fun b hb => .inl hb
  -- the state with the block gone, in the greater F
  have hk2 : SRb E β' F' (σ.kill j) a w := by
    refine ⟨fun i => (hk.tm i).mono (fun _ _ h => h) (fun b hb => ⟨hF b hb, rfl⟩) (fun _ _ h => h), hk.sz, hk.df, fun i => ?_, hk.inj, fun i g hi e => ?_, hk.lt, fun b hb => ?_, hk.keep, hk.bb, hk.nbl⟩
    · have := hk.hp i
      revert this
      cases (σ.kill j).hp i with
      | gone => exact fun _ => trivial
      | cells cs =>
        rintro ⟨g, cur, e1, e2, e3, e4⟩
        exact ⟨g, cur, e1, e2, e3, fun i x v hx hv => (e4 i x v hx hv).mono (fun _ _ h => h) (fun b hb => ⟨hF b hb, rfl⟩) (fun _ _ h => h)⟩
      | row d =>
        cases d with
        | ints k l => exact fun h => h
        | recs sz l =>
          rintro ⟨e1, e2⟩
          refine ⟨e1, ?_⟩
          rcases e2 with e2 | ⟨g, cur, e2, e3, e4⟩
          · exact .inl e2
          · refine .inr ⟨g, cur, e2, e3, fun i r k x hi hk => ?_⟩
            obtain ⟨u, hu, hl⟩ := e4 i r k x hi hk
            exact ⟨u, hu, hl.mono fun b hb => ⟨hF b hb, rfl⟩⟩
        | v => exact fun h => h
        | obj => exact fun h => h
    · obtain ⟨a1, a2, a3⟩ := hk.own i g hi e
      refine ⟨a1, a2, ?_⟩
      rintro (hf | hf)
      · exact a3 hf
      · have e : (if i = j then none else β i) = some g := e
        by_cases hij : i = j
        · simp [hij] at e
        · simp only [hij, if_false] at e
          have hi' : σ.hp i ≠ .gone := by
            simp only [St.kill, hij, decide_false] at hi
            exact Blk.kill_ne hi
          exact hij (h.inj i j g hi' hgone e hf)
    · rcases hb with hb | hb
      · exact h.fr b hb
      · obtain ⟨a1, a2, a3⟩ := h.own j b hgone hb
        refine ⟨a1, ?_⟩
        rcases a2 with a2 | a2
        · exact .inr a2
        · obtain ⟨i, hi, e⟩ := E.hM b a2
          have e' := h.bb i hi
          rw [e] at e'
          have := h.inj i j b (hl i hi) hgone e' hb
          omega
  exact hk2

section
variable {P : Program} {E : Env} {ops : Array Oper} {Q : Exit → Act → World → Prop} {rest : List Oper} {o : Oper} {σ : St} {x : Av}
/-- A row that a struct's cell holds turns into data. -/
theorem SR.freezeC {a : Act} {w : World} (j K : Nat) {d : Leaf} {cs cs' : List Cell} (hj : σ.hp j = .row d) (hK : σ.hp K = .cells cs) (hne : Nat.beq K j = false) (hjn : E.nb ≤ j) (hl : ∀ i, i < E.nb → σ.hp i ≠ .gone) (hf : FrzCs d j cs cs') (h : SR E σ a w) :
    SR E ((σ.kill j).seth K (.cells cs')) a w := by
  obtain ⟨β, F, h⟩ := h
  have hKj : K ≠ j := fun e => by rw [e] at hne; simp at hne
  have h0 := h.freeze0 hj hjn hl
  have hB := h.hp j
  rw [hj] at hB
  have hC := h.hp K
  rw [hK] at hC
  obtain ⟨g, cur, e1, e2, e3, e4⟩ := hC
  obtain ⟨h1, h2⟩ := hf.get
  refine ⟨_, _, h0.setBlk ?_ ⟨g, cur, (if_neg hKj).trans e1, e2, by omega, fun i c' v hc hv => ?_⟩⟩
  · show (match decide (K = j) with | true => Blk.gone | false => (σ.hp K).kill j) ≠ .gone
    simp only [hKj, decide_false, hK]
    intro h; cases h
  · obtain ⟨c, hc2, hfc⟩ := h2 i c' hc
    exact hfc.sound (β' := fun i => if i = j then none else β i) (F' := fun b => F b ∨ β j = some b) hB (fun g hg => .inr hg) (fun b hb => .inl hb) (fun i hi => if_neg hi) (e4 i c v hc2 hv)

/-! Structs of numbers and bools, compared. -/
end
end Go.Sx

namespace Go.Proofs.YthalijmfhllgbaaDoor
set_option linter.unusedSimpArgs false
set_option linter.unusedVariables false
open Go.Sx

set_option maxRecDepth 10000

abbrev curL (l : List Int) (p : Nat) : List Leaf := [.ints .u8 l, .v (.int .i64 (p : Int))]
abbrev curD (l : List Int) (p : Nat) : Av := .c (.lf (.obj (curL l p)))
abbrev curB (l : List Int) (p : Nat) : Blk := .cells [.lf (.ints .u8 l), .lf (.v (.int .i64 (p : Int)))]

theorem size_ok (l : List Int) (p : Nat) : Ct Tryd.prog 66 [curD l p] [] (lv (.int .i64 (l.length : Int))) [] [] := by
  refine Ct_intro Tryd.func66 rfl rfl rfl rfl rfl (fun E hn hb => ?_)
  repeat (first | refine stp ?_ | refine N_block_pass rfl ?_ | refine sp1 ?_ | refine sg1 ?_ | refine WL_nil ?_)
  exact rt1 []
theorem left_ok (l : List Int) (p : Nat) (hp : p ≤ l.length) (hl : l.length ≤ 9223372036854775807) : Ct Tryd.prog 50 [curD l p] [] (lv (.int .i64 ((l.length : Int) - (p : Int)))) [] [] := by
  have e : IntKind.i64.wrap ((l.length : Int) - (p : Int)) = (l.length : Int) - (p : Int) := by simp [IntKind.wrap, IntKind.signed, IntKind.bits]; omega
  refine Ct_intro Tryd.func50 rfl rfl rfl rfl rfl (fun E hn hb => ?_)
  repeat (first | refine stp ?_ | refine N_block_pass rfl ?_ | refine sp1 ?_ | refine sg1 ?_ | refine WL_nil ?_)
  refine WL_q (opq_of (opy_nilP (neg := false) rfl rfl rfl rfl (by first | trivial | (simp; done) | (simp; omega) | (simp at *; done) | (simp at *; omega))) rfl) (by rw [hn]; rfl) ?_
  repeat (first | refine stp ?_ | refine N_block_pass rfl ?_ | refine sp1 ?_ | refine sg1 ?_ | refine WL_nil ?_)
  refine W_cond rfl (by simp) (fun h1 => ?_) (fun h1 => ?_)
  · simp at h1
  repeat (first | refine stp ?_ | refine N_block_pass rfl ?_ | refine sp1 ?_ | refine sg1 ?_ | refine WL_nil ?_)
  refine W_drawP (by kernel_rfl) (by kernel_rfl) (by rw [hn]; rfl) ?_
  repeat (first | refine dp1 ?_ | refine dg1 ?_ | refine DrawW_nil ?_)
  refine DrawW_cons rfl (ops_of (opys_call (size_ok l p) rfl rfl rfl (by first | trivial | (simp; done) | (simp; omega) | (simp at *; done) | (simp at *; omega)) rfl rfl rfl) rfl) ?_
  repeat (first | refine dp1 ?_ | refine dg1 ?_ | refine DrawW_nil ?_)
  repeat (first | refine stp ?_ | refine N_block_pass rfl ?_ | refine sp1 ?_ | refine sg1 ?_ | refine WL_nil ?_)
  exact rt1 []
theorem peek_ok (l : List Int) (p : Nat) (hp : p < l.length) (hl : l.length ≤ 9223372036854775807) : Ct Tryd.prog 81 [curD l p] [] (.tup [lv (.int .u8 (l.getD p 0)), lv (.int .i64 0)]) [] [] := by
  refine Ct_intro Tryd.func81 rfl rfl rfl rfl rfl (fun E hn hb => ?_)
  repeat (first | refine stp ?_ | refine N_block_pass rfl ?_ | refine sp1 ?_ | refine sg1 ?_ | refine WL_nil ?_)
  refine WL_q (opq_of (opy_nilP (neg := false) rfl rfl rfl rfl (by first | trivial | (simp; done) | (simp; omega) | (simp at *; done) | (simp at *; omega))) rfl) (by rw [hn]; rfl) ?_
  repeat (first | refine stp ?_ | refine N_block_pass rfl ?_ | refine sp1 ?_ | refine sg1 ?_ | refine WL_nil ?_)
  refine W_cond rfl (by simp) (fun h1 => ?_) (fun h1 => ?_)
  · simp at h1
  repeat (first | refine stp ?_ | refine N_block_pass rfl ?_ | refine sp1 ?_ | refine sg1 ?_ | refine WL_nil ?_)
  refine s_call0 (left_ok l p (by omega) hl) rfl rfl rfl (by rw [hn]; rfl) rfl rfl (by first | trivial | (simp; done) | (simp; omega) | (simp at *; done) | (simp at *; omega)) rfl rfl rfl ?_
  repeat (first | refine stp ?_ | refine N_block_pass rfl ?_ | refine sp1 ?_ | refine sg1 ?_ | refine WL_nil ?_)
  refine W_cond rfl (by simp) (fun h3 => ?_) (fun h3 => ?_)
  · simp at h3; omega
  repeat (first | refine stp ?_ | refine N_block_pass rfl ?_ | refine sp1 ?_ | refine sg1 ?_ | refine WL_nil ?_)
  refine W_drawW 13 (by kernel_rfl) (by kernel_rfl) (by kernel_rfl) (by rw [hn]; rfl) rfl rfl ?_
  repeat (first | refine dp1 ?_ | refine dg1 ?_ | refine DrawW_nil ?_)
  repeat (first | refine stp ?_ | refine N_block_pass rfl ?_ | refine sp1 ?_ | refine sg1 ?_ | refine WL_nil ?_)
  refine rt2 [] ?_ ?_
  · show Av.tup [lv (.int .u8 (l.getD (p : Int).toNat 0)), lv (.int .i64 0)] = _
    rw [Int.toNat_natCast]
    rfl
  · trivial
end Go.Proofs.YthalijmfhllgbaaDoor

namespace Go.Proofs.YthalijmfhllgbaaDoor
set_option linter.unusedSimpArgs false
set_option linter.unusedVariables false
open Go.Sx

set_option maxRecDepth 10000
abbrev B8 (l : List Int) : Av := .c (.lf (.ints .u8 l))
def trimL (l : List Int) : List Int := l.dropWhile (· == 0)

abbrev numA (b : Bool) (l : List Int) : Av := .agg [.lf (.v (.bool b)), .lf (.ints .u8 l)]
def madeB (b : Bool) (l : List Int) : Bool := cond b (decide (0 < ((trimL l).length : Int))) false
/-- Which of two rows comes first. -/
def cmpL : List Int → List Int → Int
  | [], [] => 0
  | [], _ :: _ => -1
  | _ :: _, [] => 1
  | x :: a, y :: b => if x < y then -1 else if y < x then 1 else cmpL a b

set_option maxHeartbeats 4000000 in
theorem compare_ok (a b : List Int) (ha : a.length ≤ 1000000) (hb' : b.length ≤ 1000000) : Ct Tryd.prog 40 [B8 a, B8 b] [] (lv (.int .i64 (cmpL a b))) [] [] := by
  refine Ct_intro Tryd.func40 rfl rfl rfl rfl rfl (fun E hn hb => ?_)
  repeat (first | refine stp ?_ | refine N_block_pass rfl ?_ | refine sp1 ?_ | refine sg1 ?_ | refine WL_nil ?_)
  refine W_weaken (St.le_of (l := [(0, B8 a), (1, B8 b), (5, lv (.int .i64 0))]) (h := []) (by refine ⟨?_, ?_⟩ <;> (repeat' (first | exact trivial | exact rfl | refine ⟨?_, ?_⟩)) <;> first | exact rfl | (simp; done) | skip)) ?_
  refine W_loop (ι := {i : Nat // i ≤ 1000000 ∧ cmpL (a.drop i) (b.drop i) = cmpL a b}) (fun i => St.of [(0, B8 a), (1, B8 b), (5, lv (.int .i64 (i.1 : Int)))] []) (fun i => 1000001 - i.1) (fun i => ?_) ⟨0, by omega, rfl⟩
  obtain ⟨i, hi, he⟩ := i
  dsimp only
  repeat (first | refine stp ?_ | refine N_block_pass rfl ?_ | refine sp1 ?_ | refine sg1 ?_ | refine WL_nil ?_)
  refine W_cond rfl (by simp) (fun hc => ?_) (fun hc => ?_)
  · simp at hc
    repeat (first | refine stp ?_ | refine N_block_pass rfl ?_ | refine sp1 ?_ | refine sg1 ?_ | refine WL_nil ?_)
    refine W_drawW 21 (by kernel_rfl) (by kernel_rfl) (by kernel_rfl) (by rw [hn]; rfl) rfl rfl ?_
    repeat (first | refine dp1 ?_ | refine dg1 ?_ | refine DrawW_nil ?_)
    repeat (first | refine stp ?_ | refine N_block_pass rfl ?_ | refine sp1 ?_ | refine sg1 ?_ | refine WL_nil ?_)
    have key : ∀ x : List Int, i < x.length → x.drop i = x.getD i 0 :: x.drop (i + 1) := fun x h => by
      rw [List.drop_eq_getElem_cons h]; simp [h]
    refine W_cond rfl (by simp) (fun hd => ?_) (fun hd => ?_)
    · repeat (first | refine stp ?_ | refine N_block_pass rfl ?_ | refine sp1 ?_ | refine sg1 ?_ | refine WL_nil ?_)
      refine rt2 [] ?_ ?_
      · have : cmpL a b = -1 := by
          rw [← he]
          by_cases h1 : i < a.length
          · have h2 : i < b.length ∧ a.getD i 0 < b.getD i 0 := by
              have : ¬ a.length ≤ i := by omega
              simpa [this, Bool.cond_eq_ite] using hd
            rw [key a h1, key b h2.1]
            simp only [cmpL, h2.2, if_true]
          · rw [List.drop_eq_nil_of_le (by omega), key b (by omega)]; rfl
        rw [this]; rfl
      · trivial
    · repeat (first | refine stp ?_ | refine N_block_pass rfl ?_ | refine sp1 ?_ | refine sg1 ?_ | refine WL_nil ?_)
      have hia : i < a.length ∧ (i < b.length → ¬ a.getD i 0 < b.getD i 0) := by
        rcases Nat.lt_or_ge i a.length with h | h
        · have : ¬ a.length ≤ i := by omega
          refine ⟨h, fun hib => ?_⟩
          simpa [this, hib, Bool.cond_eq_ite] using hd
        · simp [h, Bool.cond_eq_ite] at hd
      clear hd
      refine W_drawW 15 (by kernel_rfl) (by kernel_rfl) (by kernel_rfl) (by rw [hn]; rfl) rfl rfl ?_
      repeat (first | refine dp1 ?_ | refine dg1 ?_ | refine DrawW_nil ?_)
      repeat (first | refine stp ?_ | refine N_block_pass rfl ?_ | refine sp1 ?_ | refine sg1 ?_ | refine WL_nil ?_)
      refine W_cond rfl (by simp) (fun hd => ?_) (fun hd => ?_)
      · repeat (first | refine stp ?_ | refine N_block_pass rfl ?_ | refine sp1 ?_ | refine sg1 ?_ | refine WL_nil ?_)
        refine rt2 [] ?_ ?_
        · have : cmpL a b = 1 := by
            rw [← he, key a hia.1]
            by_cases h1 : i < b.length
            · have h2 : b.getD i 0 < a.getD i 0 := by
                have : ¬ b.length ≤ i := by omega
                simpa [this, Bool.cond_eq_ite] using hd
              rw [key b h1]
              simp only [cmpL, hia.2 h1, h2, if_true, if_false]
            · rw [List.drop_eq_nil_of_le (by omega : b.length ≤ i)]; rfl
          rw [this]; rfl
        · trivial
      · repeat (first | refine stp ?_ | refine N_block_pass rfl ?_ | refine sp1 ?_ | refine sg1 ?_ | refine WL_nil ?_)
        have h1 : i < b.length ∧ ¬ b.getD i 0 < a.getD i 0 := by
          rcases Nat.lt_or_ge i b.length with h | h
          · have : ¬ b.length ≤ i := by omega
            refine ⟨h, ?_⟩
            simpa [this, Bool.cond_eq_ite] using hd
          · simp [h, Bool.cond_eq_ite] at hd
        (refine N_round ?i1 ?i2 ?i3; (case i1 => exact ⟨i + 1, by omega, by rw [← he, key a hia.1, key b h1.1]; simp only [cmpL, hia.2 h1.1, h1.2, if_false]⟩); (case i2 => (dsimp only; omega)); (case i3 => refine St.le_of ⟨?_, ?_⟩ <;> (repeat' (first | exact trivial | exact rfl | refine ⟨?_, ?_⟩)) <;> first | exact rfl | (simp; done) | skip))
  · repeat (first | refine stp ?_ | refine N_block_pass rfl ?_ | refine sp1 ?_ | refine sg1 ?_ | refine WL_nil ?_)
    refine rt2 [] ?_ ?_
    · have : cmpL a b = 0 := by
        rw [← he, List.drop_eq_nil_of_le (by simp at hc; omega), List.drop_eq_nil_of_le (by simp at hc; omega)]; rfl
      rw [this]; rfl
    · trivial

theorem cmpL_eq : ∀ a b : List Int, cmpL a b = 0 ↔ a = b
  | [], [] => by simp [cmpL]
  | [], y :: b => by simp [cmpL]
  | x :: a, [] => by simp [cmpL]
  | x :: a, y :: b => by
    simp only [cmpL, List.cons.injEq]
    rw [← cmpL_eq a b]
    split
    · simp; omega
    · split
      · simp; omega
      · have : x = y := by omega
        simp [this]

theorem same_ok (a b : List Int) (ha : a.length ≤ 1000000) (hb' : b.length ≤ 1000000) : Ct Tryd.prog 19 [B8 a, B8 b] [] (lv (.bool (decide (a = b)))) [] [] := by
  refine Ct_intro Tryd.func19 rfl rfl rfl rfl rfl (fun E hn hb => ?_)
  repeat (first | refine stp ?_ | refine N_block_pass rfl ?_ | refine sp1 ?_ | refine sg1 ?_ | refine WL_nil ?_)
  refine s_call0 (compare_ok a b ha hb') rfl rfl rfl (by rw [hn]; rfl) rfl rfl (by first | trivial | (simp; done) | (simp; omega) | (simp at *; done) | (simp at *; omega)) rfl rfl rfl ?_
  repeat (first | refine stp ?_ | refine N_block_pass rfl ?_ | refine sp1 ?_ | refine sg1 ?_ | refine WL_nil ?_)
  refine rt2 [] ?_ ?_
  · have : (cmpL a b == 0) = decide (a = b) := by
      rw [Bool.eq_iff_iff]; simp [cmpL_eq]
    rw [← this]; rfl
  · trivial
end Go.Proofs.YthalijmfhllgbaaDoor

namespace Go.Proofs.YthalijmfhllgbaaDoor
set_option linter.unusedSimpArgs false
set_option linter.unusedVariables false
open Go.Sx

set_option maxRecDepth 10000

theorem curnew_ok (l : List Int) (hl : l.length ≤ 1000000) : Ct Tryd.prog 27 [B8 l] [] (.c (.ptr 0 0)) [] [curB l 0] := by
  refine Ct_intro Tryd.func27 rfl rfl rfl rfl rfl (fun E hn hb => ?_)
  repeat (first | refine stp ?_ | refine N_block_pass rfl ?_ | refine sp1 ?_ | refine sg1 ?_ | refine WL_nil ?_)
  refine s_boxN rfl rfl rfl (by rw [hn]; rfl) rfl (by first | trivial | (simp; done) | (simp; omega) | (simp at *; done) | (simp at *; omega)) rfl rfl ?_
  repeat (first | refine stp ?_ | refine N_block_pass rfl ?_ | refine sp1 ?_ | refine sg1 ?_ | refine WL_nil ?_)
  refine s_makeI (by_ := 1) rfl rfl rfl (by rw [hn]; rfl) (elt_mk Tryd.underlying28 rfl rfl) rfl rfl rfl (by first | trivial | (simp; done) | (simp; omega) | (simp at *; done) | (simp at *; omega)) l.length (by first | rfl | (simp; done) | omega) (by first | (simp; done) | omega | (simp at *; omega)) ?_
  repeat (first | refine stp ?_ | refine N_block_pass rfl ?_ | refine sp1 ?_ | refine sg1 ?_ | refine WL_nil ?_)
  refine s_storeN rfl rfl rfl rfl rfl (by first | trivial | (simp; done) | (simp; omega) | (simp at *; done) | (simp at *; omega)) rfl rfl rfl (by rw [cellsOf28]; rfl) (by rw [info28]; rfl) rfl rfl ?_
  repeat (first | refine stp ?_ | refine N_block_pass rfl ?_ | refine sp1 ?_ | refine sg1 ?_ | refine WL_nil ?_)
  refine s_copyI rfl rfl rfl rfl rfl rfl (by rw [hn]; rfl) (elt_mk Tryd.underlying28 rfl rfl) rfl rfl rfl (by first | trivial | (simp; done) | (simp; omega) | (simp at *; done) | (simp at *; omega)) (by first | (simp; done) | (simp; omega) | (simp at *; omega)) ?_
  have e4 : List.take 0 (List.replicate l.length (0 : Int)) ++ List.take l.length l ++ List.drop (0 + (List.take l.length l).length) (List.replicate l.length (0 : Int)) = l := by
    simp
  rw [e4]
  refine WL_sr (fun a w h => SR.freezeC (d := .ints .u8 l) (cs := [.own 73 1 0 l.length, .lf (.v (.int .i64 0))]) (cs' := [.lf (.ints .u8 l), .lf (.v (.int .i64 0))]) 73 69 rfl rfl rfl (by rw [hb]; decide) (fun i hi => by rw [hb] at hi; exact absurd hi (Nat.not_lt_zero _)) ⟨⟨rfl, rfl, rfl, by omega, by rw [List.drop_zero, List.take_length]⟩, rfl, trivial⟩ h) ?_
  repeat (first | refine stp ?_ | refine N_block_pass rfl ?_ | refine sp1 ?_ | refine sg1 ?_ | refine WL_nil ?_)
  exact rt1 [69]
theorem byte_ok (l : List Int) (p : Nat) (hp : p < l.length) (hl : l.length ≤ 1000000) : Ct Tryd.prog 65 [.c (.ptr 0 0)] [curB l p] (.tup [lv (.int .u8 (l.getD p 0)), lv (.int .i64 0)]) [curB l (p + 1)] [] := by
  have e : ((p : Int) + 1) = ((p + 1 : Nat) : Int) := by omega
  refine Ct_intro Tryd.func65 rfl rfl rfl rfl rfl (fun E hn hb => ?_)
  repeat (first | refine stp ?_ | refine N_block_pass rfl ?_ | refine sp1 ?_ | refine sg1 ?_ | refine WL_nil ?_)
  refine WL_q (opq_of (opy_callL (peek_ok l p hp (by omega)) rfl rfl rfl (by first | trivial | (simp; done) | (simp; omega) | (simp at *; done) | (simp at *; omega)) ⟨.inr (.inr ⟨0, 0, _, _, rfl, rfl, rfl, rfl⟩), trivial⟩ rfl) rfl) (by rw [hn]; rfl) ?_
  repeat (first | refine stp ?_ | refine N_block_pass rfl ?_ | refine sp1 ?_ | refine sg1 ?_ | refine WL_nil ?_)
  refine W_cond rfl (by simp) (fun h1 => ?_) (fun h1 => ?_)
  · repeat (first | refine stp ?_ | refine N_block_pass rfl ?_ | refine sp1 ?_ | refine sg1 ?_ | refine WL_nil ?_)
    refine s_storeN rfl rfl rfl rfl rfl (by first | trivial | (simp; done) | (simp; omega) | (simp at *; done) | (simp at *; omega)) rfl rfl rfl (by rw [cellsOf3]; rfl) (by rw [info3]; rfl) rfl rfl ?_
    repeat (first | refine stp ?_ | refine N_block_pass rfl ?_ | refine sp1 ?_ | refine sg1 ?_ | refine WL_nil ?_)
    refine rt2 [] ?_ ?_
    · rfl
    · trivial
  · simp at h1
end Go.Proofs.YthalijmfhllgbaaDoor

namespace Go.Proofs.YthalijmfhllgbaaDoor
set_option linter.unusedSimpArgs false
set_option linter.unusedVariables false
open Go.Sx

set_option maxRecDepth 10000

theorem refmade_ok (b : Bool) (l : List Int) (hl : l.length ≤ 1000000) : Ct Tryd.prog 63 [numA b l] [] (numA (madeB b l) (trimL l)) [] [] := by
  refine Ct.freeze (res := .agg [.lf (.v (.bool (madeB b l))), .own 0 1 0 (trimL l).length]) (d := .ints .u8 (trimL l)) ?_ ⟨rfl, ⟨rfl, rfl, rfl, by simp, by simp⟩, trivial⟩ rfl
  refine Ct_intro Tryd.func63 rfl rfl rfl rfl rfl (fun E hn hb => ?_)
  repeat (first | refine stp ?_ | refine N_block_pass rfl ?_ | refine sp1 ?_ | refine sg1 ?_ | refine WL_nil ?_)
  refine s_boxN rfl rfl rfl (by rw [hn]; rfl) rfl (by first | trivial | (simp; done) | (simp; omega) | (simp at *; done) | (simp at *; omega)) rfl rfl ?_
  refine s_allocN rfl rfl rfl (by rw [hn]; rfl) rfl zok74 ?_
  repeat (first | refine stp ?_ | refine N_block_pass rfl ?_ | refine sp1 ?_ | refine sg1 ?_ | refine WL_nil ?_)
  refine W_weaken (St.le_of (l := [(1, .c (.ptr 65 0)), (2, .c (.ptr 66 0)), (3, lv (.int .i64 0))]) (h := [(65, .cells [.lf (.v (.bool b)), .lf (.ints .u8 l)]), (66, .cells [.lf (.v (.bool false)), .lf (.v (.slice none 0 0))])]) (by refine ⟨?_, ?_⟩ <;> (repeat' (first | exact trivial | exact rfl | refine ⟨?_, ?_⟩)) <;> first | exact rfl | (simp; done) | skip)) ?_
  refine W_loop (ι := {i : Nat // i ≤ l.length ∧ trimL (l.drop i) = trimL l}) (fun i => St.of [(1, .c (.ptr 65 0)), (2, .c (.ptr 66 0)), (3, lv (.int .i64 (i.1 : Int)))] [(65, .cells [.lf (.v (.bool b)), .lf (.ints .u8 l)]), (66, .cells [.lf (.v (.bool false)), .lf (.v (.slice none 0 0))])]) (fun i => 1000001 - i.1) (fun i => ?_) ⟨0, by omega, rfl⟩
  obtain ⟨i, hi, he⟩ := i
  dsimp only
  repeat (first | refine stp ?_ | refine N_block_pass rfl ?_ | refine sp1 ?_ | refine sg1 ?_ | refine WL_nil ?_)
  refine W_cond rfl (by simp) (fun hc => ?_) (fun hc => ?_)
  · have hil : i < l.length ∧ l.getD i 0 = 0 := by simpa [Bool.cond_eq_ite] using hc
    repeat (first | refine stp ?_ | refine N_block_pass rfl ?_ | refine sp1 ?_ | refine sg1 ?_ | refine WL_nil ?_)
    (refine N_round ?i1 ?i2 ?i3; (case i1 => exact ⟨i + 1, by omega, by rw [← he, List.drop_eq_getElem_cons hil.1]; have := hil.2; simp [hil.1] at this; simp [trimL, this]⟩); (case i2 => (dsimp only; omega)); (case i3 => refine St.le_of ⟨?_, ?_⟩ <;> (repeat' (first | exact trivial | exact rfl | refine ⟨?_, ?_⟩)) <;> first | exact rfl | (simp; done) | skip))
  · have he2 : l.drop i = trimL l := by
      rw [← he]
      rcases Nat.lt_or_ge i l.length with h | h
      · have : ¬ l.getD i 0 = 0 := by simpa [h, Bool.cond_eq_ite] using hc
        simp [h] at this
        rw [List.drop_eq_getElem_cons h]
        have this' : (l[i] == 0) = false := by simpa using this
        rw [trimL, List.dropWhile_cons, this']; rfl
      · rw [List.drop_eq_nil_of_le h]; rfl
    repeat (first | refine stp ?_ | refine N_block_pass rfl ?_ | refine sp1 ?_ | refine sg1 ?_ | refine WL_nil ?_)
    refine s_litI rfl rfl rfl (by rw [hn]; rfl) (elt_mk Tryd.underlying28 rfl rfl) (zok5) (by first | trivial | (simp; done) | (simp; omega) | (simp at *; done) | (simp at *; omega)) ⟨by decide, rfl⟩ ?_
    repeat (first | refine stp ?_ | refine N_block_pass rfl ?_ | refine sp1 ?_ | refine sg1 ?_ | refine WL_nil ?_)
    refine s_appI rfl rfl rfl rfl rfl rfl (by rw [hn]; rfl) (elt_mk Tryd.underlying28 rfl rfl) rfl rfl rfl rfl (by first | trivial | (simp; done) | (simp; omega) | (simp at *; done) | (simp at *; omega)) (by first | rfl | (simp; done) | (simp; omega)) ⟨by first | (simp; done) | (simp; omega) | (simp at *; omega), by decide⟩ ?_
    repeat (first | refine stp ?_ | refine N_block_pass rfl ?_ | refine sp1 ?_ | refine sg1 ?_ | refine WL_nil ?_)
    refine s_allocN rfl rfl rfl (by rw [hn]; rfl) rfl zok74 ?_
    refine s_storeN rfl rfl rfl rfl rfl (by first | trivial | (simp; done) | (simp; omega) | (simp at *; done) | (simp at *; omega)) rfl rfl rfl (by rw [cellsOf74]; rfl) (by rw [info74]; rfl) rfl rfl ?_
    repeat (first | refine stp ?_ | refine N_block_pass rfl ?_ | refine sp1 ?_ | refine sg1 ?_ | refine WL_nil ?_)
    refine s_storeN rfl rfl rfl rfl rfl (by first | trivial | (simp; done) | (simp; omega) | (simp at *; done) | (simp at *; omega)) rfl rfl rfl (by rw [cellsOf4]; rfl) (by rw [info4]; rfl) rfl rfl ?_
    repeat (first | refine stp ?_ | refine N_block_pass rfl ?_ | refine sp1 ?_ | refine sg1 ?_ | refine WL_nil ?_)
    refine s_storeN rfl rfl rfl rfl rfl (by first | trivial | (simp; done) | (simp; omega) | (simp at *; done) | (simp at *; omega)) rfl rfl rfl (by rw [cellsOf74]; rfl) (by rw [info74]; rfl) rfl rfl ?_
    repeat (first | refine stp ?_ | refine N_block_pass rfl ?_ | refine sp1 ?_ | refine sg1 ?_ | refine WL_nil ?_)
    have he3 : l.drop (i : Int).toNat = trimL l := he2
    refine rt2 [84] ?_ ?_
    · have hlen : l.length - i = (trimL l).length := by rw [← he2]; simp
      simp [madeB, Av.ren, Av.ren1, Cell.ren, Cell.ren1, rho]
      exact ⟨by rw [hlen], rfl, hlen⟩
    · show Blk.row (.ints .u8 ([] ++ l.drop (i : Int).toNat)) = _
      rw [he3]; rfl

end Go.Proofs.YthalijmfhllgbaaDoor

namespace Go.Proofs.YthalijmfhllgbaaDoor
set_option linter.unusedSimpArgs false
set_option linter.unusedVariables false
open Go.Sx

set_option maxRecDepth 10000

@[simp] theorem wrapE8 (x : Int) : IntKind.u8.wrap x = x % 256 := by simp [IntKind.wrap, IntKind.signed, IntKind.bits]
def patL (n : Int) : List Int := (List.range 8).map fun i => n / 2 ^ (56 - 8 * i) % 256

def ofMag (k : Int) : Int := if k < 0 then -k else k
def WfB (l : List Int) : Prop := ∀ x ∈ l, 0 ≤ x ∧ x < 256
theorem set_mid (a b : List Int) (x y : Int) (i : Nat) (h : a.length = i) : (a ++ x :: b).set i y = a ++ y :: b := by
  subst h
  induction a with
  | nil => rfl
  | cons z a ih => simp [ih]

end Go.Proofs.YthalijmfhllgbaaDoor

namespace Go.Proofs.YthalijmfhllgbaaDoor
set_option linter.unusedSimpArgs false
set_option linter.unusedVariables false
open Go.Sx

set_option maxRecDepth 10000

theorem wf_trim {l : List Int} (h : WfB l) : WfB (trimL l) := fun x hx => h x ((List.dropWhile_sublist _).subset hx)
theorem len_trim (l : List Int) : (trimL l).length ≤ l.length := (List.dropWhile_sublist _).length_le

end Go.Proofs.YthalijmfhllgbaaDoor

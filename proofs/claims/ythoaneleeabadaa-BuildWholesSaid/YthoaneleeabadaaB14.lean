/-
  Chapter 08's law BuildWholes, walked: it returns true. The conditions: bytes that a machine can hold.
-/
import Derived.Test.YthoaneleeabadaaB5
import Derived.Test.YthoaneleeabadaaW9
import Derived.Test.YthoaneleeabadaaSxZ
namespace Go.Proofs.Ythoaneleeabadaa
set_option linter.unusedSimpArgs false
set_option linter.unusedVariables false
open Go.Sx

set_option maxRecDepth 10000

theorem stable_ok (rs : List (List Int)) (hl : rs.length ≤ 19) (hr : RowsB rs) :
    Ct Try.prog 104 [.c (.own 0 1 0 rs.length), lv (.int .i64 (rs.length : Int)), .c (.fn (.func 64) [] [])] [rowR rs] (.tup []) [rowR (isortA 1 (rs.length - 1) rs)] [] := by
  have h := isort_ok rs (by omega) hr
  refine Ct_intro Try.func104 rfl rfl rfl rfl rfl (fun E hn hb => ?_)
  repeat refine nx ?_
  refine W_once ?_
  repeat refine nx ?_
  refine W_once ?_
  repeat refine nx ?_
  exact rt1 []
theorem sortS_ok (rs : List (List Int)) (hl : rs.length ≤ 19) (hr : RowsB rs) :
    Ct Try.prog 73 [.c (.own 0 1 0 rs.length), .c (.fn (.func 64) [] [])] [rowR rs] (.tup []) [rowR (isortA 1 (rs.length - 1) rs)] [] := by
  have h := stable_ok rs hl hr
  refine Ct_intro Try.func73 rfl rfl rfl rfl rfl (fun E hn hb => ?_)
  repeat refine nx ?_
  exact rt1 []
theorem cloneR_ok (rs : List (List Int)) (hl : rs.length ≤ 1000) : Ct Try.prog 72 [rowsA rs] [] (.c (.own 0 1 0 rs.length)) [] [rowR rs] := by
  refine Ct_intro Try.func72 rfl rfl rfl rfl rfl (fun E hn hb => ?_)
  repeat refine nx ?_
  refine s_nilS (neg := false) rfl rfl (by rw [hn]; rfl) Try.underlying27 rfl (by simp) (by simp [szD]) (fun b hbl => ?_)
  simp [lenD] at hbl
  cases b with
  | true =>
    obtain rfl := hbl rfl
    repeat refine nx ?_
    refine N_own_nil 2 64 1 (.recs 1 []) rfl rfl (.inr (.inr ⟨_, rfl⟩)) ?_
    exact rt1 [64]
  | false =>
    repeat refine nx ?_
    refine rt2 [69] ?_ ?_
    · simp; rfl
    · simp; rfl
def isortL (rs : List (List Int)) : List (List Int) := isortA 1 (rs.length - 1) rs
theorem isortA_len : ∀ (n i : Nat) (rs : List (List Int)), (isortA i n rs).length = rs.length
  | 0, _, _ => rfl
  | n + 1, i, rs => by rw [isortA, isortA_len n, bubD_len]
theorem setOf_ok (rs : List (List Int)) (hl : rs.length ≤ 19) (hr : RowsB rs) (hf : (isortL rs).flatten.length ≤ 1000000) :
    Ct Try.prog 36 [rowsA rs] [] (.tup [B8 (wrapL (ofT 17) (isortL rs).flatten), lv (.int .i64 0)]) [] [] := by
  have h1 := cloneR_ok rs (by omega)
  have h2 := sortS_ok rs hl hr
  have hil := isortA_len (rs.length - 1) 1 rs
  have h3 := headof_ok 17
  have h4 := wrap_ok (ofT 17) (isortL rs) (by decide) (by unfold isortL; omega) hf
  change Ct Try.prog _ _ _ _ [rowR (isortL rs)] _ at h2
  change (isortL rs).length = _ at hil
  generalize isortL rs = ss at *
  generalize wrapL (ofT 17) ss.flatten = W at *
  refine Ct_intro Try.func36 rfl rfl rfl rfl rfl (fun E hn hb => ?_)
  repeat refine nx ?_
  rw [← hil]
  refine frzL 10 ?_
  repeat refine nx ?_
  exact rtU []

/-! The document's order. -/
end Go.Proofs.Ythoaneleeabadaa

namespace Go.Proofs.Ythoaneleeabadaa
set_option linter.unusedSimpArgs false
set_option linter.unusedVariables false
open Go.Sx

theorem cmpL_anti : ∀ a b : List Int, cmpL a b < 0 ↔ 0 < cmpL b a
  | [], [] => by simp [cmpL]
  | [], _ :: _ => by simp [cmpL]
  | _ :: _, [] => by simp [cmpL]
  | x :: a, y :: b => by
    have ih := cmpL_anti a b
    simp only [cmpL]
    (repeat' split) <;> first | omega | exact ih
end Go.Proofs.Ythoaneleeabadaa

namespace Go.Proofs.Ythoaneleeabadaa
set_option linter.unusedSimpArgs false
set_option linter.unusedVariables false
open Go.Sx

set_option maxRecDepth 10000

abbrev nilC : Cell := .lf (.v (.slice none 0 0))
/-- A sheet: its frame's tag, bytes, the frames around, the error. -/
abbrev shC (t : TagP) (b a : Cell) (e : Int) : Blk := .cells [i64c t.1, i64c t.2.1, .lf (.v (.bool t.2.2)), .lf (.v (.bool false)), b, a, i64c e]
abbrev frame0 : List Leaf := [.v (.int .i64 0), .v (.int .i64 0), .v (.bool false), .v (.bool false), .v (.slice none 0 0)]
abbrev arL : Leaf := .recs 5 [frame0]
abbrev arC : Cell := .lf arL
abbrev sh0 : Blk := shC tag0 nilC nilC 0
/-- A sheet with one frame open, with so many bytes. -/
abbrev sh1 (t : TagP) (l : List Int) (e : Int) : Blk := shC t (.own 1 1 0 l.length) arC e
abbrev r8 (l : List Int) : Blk := .row (.ints .u8 l)
theorem bnew_ok : Ct Try.prog 9 [] [] (.c (.ptr 0 0)) [] [sh0] := by
  refine Ct_intro Try.func9 rfl rfl rfl rfl rfl (fun E hn hb => ?_)
  repeat refine nx ?_
  exact rt1 [66]
theorem boff_ok (t : TagP) (l : List Int) (e : Int) : Ct Try.prog 50 [.c (.ptr 0 0)] [sh1 t l e, r8 l] (lv (.bool (bif false then true else e != 0))) [sh1 t l e, r8 l] [] := by
  refine Ct_intro Try.func50 rfl rfl rfl rfl rfl (fun E hn hb => ?_)
  repeat refine nx ?_
  exact rt1 []
theorem boff0_ok : Ct Try.prog 50 [.c (.ptr 0 0)] [sh0] (lv (.bool false)) [sh0] [] := by
  refine Ct_intro Try.func50 rfl rfl rfl rfl rfl (fun E hn hb => ?_)
  repeat refine nx ?_
  exact rt1 []
theorem bopen_ok (t : TagP) : Ct Try.prog 52 [.c (.ptr 0 0), .agg [i64c t.1, i64c t.2.1, .lf (.v (.bool t.2.2)), .lf (.v (.bool false)), nilC]] [sh0] (.tup []) [sh1 t [] 0] [r8 []] := by
  have h := boff0_ok
  refine Ct_intro Try.func52 rfl rfl rfl rfl rfl (fun E hn hb => ?_)
  repeat refine nx ?_
  refine N_sr (fun a w h => SR.cell_nil 0 4 900 rfl rfl rfl rfl rfl h) ?_
  exact rt1 [900]
theorem bOpen_ok (t : TagP) : Ct Try.prog 13 [.c (.ptr 0 0), tagA t] [sh0] (.tup []) [sh1 t [] 0] [r8 []] := by
  have h := bopen_ok t
  refine Ct_intro Try.func13 rfl rfl rfl rfl rfl (fun E hn hb => ?_)
  repeat refine nx ?_
  exact rt1 [71]
theorem badd_ok (t : TagP) (l x : List Int) (fr : List (List Leaf)) (e : Int) (hl : l.length + x.length ≤ 1000000) :
    CtM Try.prog 51 [.c (.ptr 0 0), B8 x] [shC t (.own 1 1 0 l.length) (.lf (.recs 5 fr)) e, r8 l] (.tup []) [shC t (.own 2 1 0 (l ++ x).length) (.lf (.recs 5 fr)) e, .gone] [r8 (l ++ x)] := by
  have e0 : l.take (0 + l.length) = l := by simp
  refine CtM_intro Try.func51 rfl rfl rfl rfl rfl (fun E hn hb => ?_)
  repeat refine nx ?_
  refine s_appendK 900 rfl rfl rfl rfl rfl (by rw [hn]; rfl) (elt_mk Try.underlying41 rfl rfl) rfl rfl rfl rfl ?_ (by simp) ⟨by omega, by decide⟩ ?_ ?_
  · trivial
  · rw [e0]
    repeat refine nx ?_
    rw [← List.length_append]
    exact N_endM [1] rfl (by trivial) ⟨rfl, ⟨.inr rfl, .inl rfl⟩, rfl, rfl⟩ hb rfl
  · rw [e0, List.drop_zero]
    repeat refine nx ?_
    rw [← List.length_append]
    exact N_endM [900] rfl (by trivial) ⟨rfl, ⟨.inr rfl, .inl rfl⟩, rfl, rfl⟩ hb rfl
/-- One row put. -/
theorem bput_ok (t : TagP) (l x : List Int) (hl : l.length + x.length ≤ 1000000) :
    CtM Try.prog 12 [.c (.ptr 0 0), rowsA [x]] [sh1 t l 0, r8 l] (.tup []) [shC t (.own 2 1 0 (l ++ x).length) arC 0, .gone] [r8 (l ++ x)] := by
  have h := boff_ok t l 0
  have ha := badd_ok t l x [frame0] 0 hl
  refine CtM_intro Try.func12 rfl rfl rfl rfl rfl (fun E hn hb => ?_)
  repeat refine nx ?_
  refine W_weaken (St.le_of (l := [(0, .c (.ptr 0 0)), (8, rowsA [x]), (9, lv (.int .i64 1)), (10, lv (.int .i64 0))]) (h := [(0, sh1 t l 0), (1, r8 l)]) (by refine ⟨?_, ?_⟩ <;> (repeat' (first | exact trivial | exact rfl | refine ⟨?_, ?_⟩)) <;> first | exact rfl | (simp; done) | skip)) ?_
  refine W_loop (ι := Bool) (fun i => match i with
    | false => St.of [(0, .c (.ptr 0 0)), (8, rowsA [x]), (9, lv (.int .i64 1)), (10, lv (.int .i64 0))] [(0, sh1 t l 0), (1, r8 l)]
    | true => St.of [(8, rowsA [x]), (9, lv (.int .i64 1)), (10, lv (.int .i64 1))] [(0, shC t (.own 82 1 0 (l ++ x).length) arC 0), (82, r8 (l ++ x))]) (fun i => match i with | false => 1 | true => 0) (fun i => ?_) false
  cases i with
  | false =>
    dsimp only
    repeat refine nx ?_
    refine s_callM [0, 1] ha rfl rfl (by rw [hn]; rfl) rfl rfl (by trivial) ⟨rfl, ⟨rfl, rfl⟩, (by simp [ordL]), rfl⟩ ?_
    repeat refine nx ?_
    refine N_round true (by decide) (St.le_of ⟨⟨rfl, rfl, rfl⟩, ⟨rfl, rfl⟩⟩)
  | true =>
    dsimp only
    repeat refine nx ?_
    exact N_retM [82] rfl (by trivial) ⟨rfl, ⟨.inr rfl, .inl rfl⟩, rfl, rfl⟩ hb rfl
/-- A sheet whose bytes are data. -/
abbrev shL (t : TagP) (l : List Int) (a : Leaf) (e : Int) : List Leaf := [.v (.int .i64 t.1), .v (.int .i64 t.2.1), .v (.bool t.2.2), .v (.bool false), .ints .u8 l, a, .v (.int .i64 e)]
abbrev shD (t : TagP) (l : List Int) (a : Leaf) (e : Int) : Blk := shC t (.lf (.ints .u8 l)) (.lf a) e
theorem boffD_ok (t : TagP) (l : List Int) (a : Leaf) (e : Int) : Ct Try.prog 50 [.c (.lf (.obj (shL t l a e)))] [] (lv (.bool (bif false then true else e != 0))) [] [] := by
  refine Ct_intro Try.func50 rfl rfl rfl rfl rfl (fun E hn hb => ?_)
  repeat refine nx ?_
  exact rt1 []
theorem bwhole_ok (t : TagP) (l : List Int) (hl : l.length ≤ 1000000) : Ct Try.prog 53 [.c (.ptr 0 0)] [shD t l arL 0] (.tup [B8 (wrapR t l).1, lv (.int .i64 (wrapR t l).2)]) [shD t l arL 0] [] := by
  have h := wrapR_ok t [l] (by simp) (by simp; omega)
  rw [show [l].flatten = l by simp] at h
  refine Ct_intro Try.func53 rfl rfl rfl rfl rfl (fun E hn hb => ?_)
  repeat refine nx ?_
  exact rt1 []
theorem bshut_ok (t : TagP) (l : List Int) (h : rightT t = true) (hl : l.length ≤ 900000) : Ct Try.prog 16 [.c (.ptr 0 0)] [shD t l arL 0] (.tup []) [shC tag0 (.own 1 1 0 (wrapL t l).length) (.lf (.recs 5 [])) 0] [r8 (wrapL t l)] := by
  have h0 := boffD_ok t l arL 0
  have h1 := bwhole_ok t l (by omega)
  have hw := wrap_len t l
  unfold wrapR at h1
  rw [if_pos h] at h1
  have h2 := badd_ok tag0 [] (wrapL t l) [] 0 (by simp; omega)
  rw [List.nil_append] at h2
  generalize wrapL t l = W at *
  dsimp only at h1
  refine Ct_intro Try.func16 rfl rfl rfl rfl rfl (fun E hn hb => ?_)
  repeat refine nx ?_
  refine WL_sr (fun a w h => SR.cell_nil 0 4 900 rfl rfl rfl rfl rfl h) ?_
  refine s_callM [0, 900] h2 rfl rfl (by rw [hn]; rfl) rfl rfl (by trivial) ⟨rfl, ⟨rfl, rfl⟩, (by simp [ordL]), rfl⟩ ?_
  repeat refine nx ?_
  exact rt1 [116]
theorem bbytes_ok (l : List Int) (hl : l.length ≤ 1000000) : Ct Try.prog 19 [.c (.ptr 0 0)] [shD tag0 l (.recs 5 []) 0] (.tup [B8 l, lv (.int .i64 0)]) [shD tag0 l (.recs 5 []) 0] [] := by
  have h := clone_ok l hl
  refine Ct_intro Try.func19 rfl rfl rfl rfl rfl (fun E hn hb => ?_)
  repeat refine nx ?_
  exact rt1 []
end Go.Proofs.Ythoaneleeabadaa

namespace Go.Proofs.Ythoaneleeabadaa
set_option linter.unusedSimpArgs false
set_option linter.unusedVariables false
open Go.Sx

set_option maxRecDepth 10000

theorem ex8a : wrapL (ofT 16) [5, 0] = [48, 2, 5, 0] := by decide +kernel
theorem ex8b : wrapL (ofT 17) (isortL [[2, 1, 5], [1, 1, 255]]).flatten = [49, 6, 1, 1, 255, 2, 1, 5] := by decide +kernel
theorem ex8c : implP 1 [4, 1, 7] = ([129, 1, 7], 0) := by decide +kernel
theorem hx_of (A : List Int) (s : ByteArray) (hl : A.length ≤ 1000) (hw : WfB A) (h : strOfNums (hexL A) = s) : Ct Try.prog 59 [B8 A] [] (lv (.string s)) [] [] := by
  have := hex_ok A (by omega) hw
  rw [h] at this
  exact this
set_option maxHeartbeats 4000000 in
theorem known8_ok : Ct Try.prog 23 [] [] (lv (.bool true)) [] [] := by
  have h1 := bnew_ok
  have h2 := headof_ok 16
  have h3 := bOpen_ok (ofT 16)
  have h4 := bput_ok (ofT 16) [] [5, 0] (by decide)
  have h5 := bshut_ok (ofT 16) [5, 0] (by decide) (by decide)
  rw [ex8a] at h5
  have h6 := bbytes_ok [48, 2, 5, 0] (by decide)
  have h7 := setOf_ok [[2, 1, 5], [1, 1, 255]] (by decide) (by intro r hr; simp at hr; rcases hr with rfl | rfl <;> decide) (by decide +kernel)
  rw [ex8b] at h7
  have h8 := implicit_ok 1 [4, 1, 7] (by decide) (by intro x hx; simp at hx; omega)
  rw [ex8c] at h8
  have h9 := hx_of [48, 2, 5, 0] ⟨#[51, 48, 48, 50, 48, 53, 48, 48]⟩ (by decide) (by intro x hx; simp at hx; omega) (by decide +kernel)
  have h10 := hx_of [49, 6, 1, 1, 255, 2, 1, 5] ⟨#[51, 49, 48, 54, 48, 49, 48, 49, 102, 102, 48, 50, 48, 49, 48, 53]⟩ (by decide) (by intro x hx; simp at hx; omega) (by decide +kernel)
  have h11 := hx_of [129, 1, 7] ⟨#[56, 49, 48, 49, 48, 55]⟩ (by decide) (by intro x hx; simp at hx; omega) (by decide +kernel)
  refine Ct_intro Try.func23 rfl rfl rfl rfl rfl (fun E hn hb => ?_)
  repeat refine nx ?_
  refine s_callM [72, 75] h4 rfl rfl (by rw [hn]; rfl) rfl rfl (by trivial) ⟨rfl, ⟨rfl, rfl⟩, (by simp [ordL]), rfl⟩ ?_
  repeat refine nx ?_
  refine frcL 79 72 ?_
  repeat refine nx ?_
  refine frcL 81 72 ?_
  repeat refine nx ?_
  refine rt2 [] (congrArg (fun x => lv (.bool x)) ?_) trivial; (simp [eqCs, Cell.kill, Cell.kill1])
end Go.Proofs.Ythoaneleeabadaa

namespace Go.Proofs.Ythoaneleeabadaa
set_option linter.unusedSimpArgs false
set_option linter.unusedVariables false
open Go.Sx

set_option maxRecDepth 10000

set_option maxHeartbeats 4000000 in
theorem refwholes_ok (l : List Int) (p : Nat) (hp : p ≤ l.length) (hl : l.length ≤ 100000) (hw : WfB l) :
    Ct Try.prog 29 [B8 l, lv (.int .i64 (p : Int))] [] (.tup [.c (.lf (.recs 1 (recB (wholesP l p).1))), lv (.int .i64 (wholesP l p).2)]) [] [] := by
  refine Ct_intro Try.func29 rfl rfl rfl rfl rfl (fun E hn hb => ?_)
  repeat refine nx ?_
  refine W_own_nil 6 900 1 (.recs 1 []) rfl rfl (.inr (.inr ⟨_, rfl⟩)) ?_
  refine W_weaken (St.le_of (l := [(0, B8 l), (1, lv (.int .i64 (p : Int))), (6, .c (.own 900 1 0 (recB []).length))]) (h := [(900, .row (.recs 1 (recB [])))]) (by refine ⟨?_, ?_⟩ <;> (repeat' (first | exact trivial | exact rfl | refine ⟨?_, ?_⟩)) <;> first | exact rfl | (simp; done) | skip)) ?_
  refine W_loop (ι := {x : Nat × Nat × List (List Int) // p ≤ x.2.1 ∧ x.2.1 ≤ l.length ∧ l.length - x.2.1 < x.1 ∧ x.2.2.length ≤ x.2.1 ∧ wholesA l x.1 x.2.1 x.2.2 = wholesP l p}) (fun i => St.of [(0, B8 l), (1, lv (.int .i64 (i.1.2.1 : Int))), (6, .c (.own 900 1 0 (recB i.1.2.2).length))] [(900, .row (.recs 1 (recB i.1.2.2)))]) (fun i => l.length - i.1.2.1) (fun i => ?_) ⟨(l.length + 1, p, []), Nat.le_refl _, hp, by dsimp only; omega, Nat.zero_le _, rfl⟩
  obtain ⟨⟨n, q, acc⟩, h0, h1, h2, h3, h4⟩ := i
  change p ≤ q at h0
  change q ≤ l.length at h1
  change l.length - q < n at h2
  change acc.length ≤ q at h3
  change wholesA l n q acc = wholesP l p at h4
  dsimp only
  obtain ⟨n, rfl⟩ : ∃ m, n = m + 1 := ⟨n - 1, by omega⟩
  by_cases hq : q < l.length
  · have ho := refread_ok l q h1 (by omega) hw
    have hf := one_fwd l q hq hw
    have hst := wholesA_step l n q acc hq
    have her : ¬ (oneP l q).2.2.2.1 = 0 → wholesA l (n + 1) q acc = ([], (oneP l q).2.2.2.1) := fun h => by rw [wholesA, if_neg (by omega), if_pos h]
    have hpos := readP_pos l q hw
    have hle := readP_le l q h1
    unfold oneP at hf hst her
    generalize readP l q = O at *
    obtain ⟨⟨⟨t1, t2, t3⟩, a⟩, r, e⟩ := O
    dsimp only at *
    by_cases he : e = 0
    · subst he
      rw [if_neg (by simp)] at hf hst her
      by_cases hx : (l.length : Int) - r < a
      · rw [if_pos hx] at hf hst her
        rw [h4] at her
        rw [her (by simp)]
        repeat refine nx ?_
        exact rtU []
      · rw [if_neg hx] at hf hst her
        dsimp only at hf hst
        have hf := hf rfl
        have hsl : (l.drop q).take (r - q + a.toNat) = (l.take ((r : Int) + a).toNat).drop (q : Int).toNat := by
          rw [Int.toNat_natCast, List.drop_take]
          congr 1
          omega
        have hrec : recB (acc ++ [(l.drop q).take (r - q + a.toNat)]) = recB acc ++ [[.ints .u8 ((l.take ((r : Int) + a).toNat).drop (q : Int).toNat)]] := by rw [hsl]; simp [recB]
        rw [hst rfl] at h4
        repeat refine nx ?_
        refine N_round ⟨(n, r + a.toNat, acc ++ [(l.drop q).take (r - q + a.toNat)]), by dsimp only; omega, by dsimp only; omega, by dsimp only; omega, by dsimp only; simp; omega, h4⟩ (by dsimp only; omega) (St.le_of ⟨⟨rfl, ?_, ?_⟩, ?_⟩)
        · exact congrArg (fun x => lv (.int .i64 x)) (show (r : Int) + a = ((r + a.toNat : Nat) : Int) by omega)
        · dsimp only; rw [hrec]; show _ = _; rfl
        · dsimp only; rw [hrec]; show _ = _; rfl
    · rw [if_pos he] at hf hst her
      have her := her he
      rw [h4] at her
      rw [her]
      repeat refine nx ?_
      exact rtU []
  · have hw0 : wholesP l p = (acc, 0) := by rw [← h4, wholesA, if_pos (by omega)]
    rw [hw0]
    obtain rfl : q = l.length := by omega
    repeat refine nx ?_
    refine frzN 4 ?_
    exact rtU []
/-- Rows in order, from the end: n steps. -/
def sortedA (rs : List (List Int)) : Nat → Bool
  | 0 => true
  | n + 1 => if cmpL (rs.getD (n + 1) []) (rs.getD n []) < 0 then false else sortedA rs n
set_option maxHeartbeats 4000000 in
theorem issorted_ok (rs : List (List Int)) (hl : rs.length ≤ 1000000) (hr : RowsB rs) :
    Ct Try.prog 63 [rowsA rs, .c (.fn (.func 64) [] [])] [] (lv (.bool (sortedA rs (rs.length - 1)))) [] [] := by
  refine Ct_intro Try.func63 rfl rfl rfl rfl rfl (fun E hn hb => ?_)
  repeat refine nx ?_
  refine W_weaken (St.le_of (l := [(0, rowsA rs), (1, .c (.fn (.func 64) [] [])), (5, lv (.int .i64 (((recB rs).length : Int) - 1)))]) (h := []) (by refine ⟨?_, ?_⟩ <;> (repeat' (first | exact trivial | exact rfl | refine ⟨?_, ?_⟩)) <;> first | exact rfl | (simp; done) | skip)) ?_
  refine W_loop (ι := {i : Int // -1 ≤ i ∧ i < (rs.length : Int) ∧ sortedA rs i.toNat = sortedA rs (rs.length - 1)}) (fun i => St.of [(0, rowsA rs), (1, .c (.fn (.func 64) [] [])), (5, lv (.int .i64 i.1))] []) (fun i => i.1.toNat) (fun i => ?_) ⟨((recB rs).length : Int) - 1, ⟨by simp; omega, by simp; omega, by simp only [recB, List.length_map]; congr 1; omega⟩⟩
  obtain ⟨i, h0, h1, h2⟩ := i
  dsimp only
  by_cases hi : 0 < i
  · obtain ⟨j, rfl⟩ : ∃ j : Nat, i = (j : Int) + 1 := ⟨(i - 1).toNat, by omega⟩
    have e0 : ((j : Int) + 1).toNat = j + 1 := by omega
    have e1 : ((j : Int) + 1 - 1).toNat = j := by omega
    rw [e0, sortedA] at h2
    repeat refine nx ?_
    refine duc1 (hF := octcmp_ok _ _ (getD_rows hr _) (getD_rows hr _)) ?_
    repeat refine nx ?_
    refine W_cond rfl (by simp) (fun hc => ?_) (fun hc => ?_)
    · rw [if_pos (by simpa using hc)] at h2
      rw [← h2]
      repeat refine nx ?_
      refine rt2 [] (congrArg (fun x => lv (.bool x)) ?_) trivial; (simp [eqCs, Cell.kill, Cell.kill1])
    · rw [if_neg (by simpa using hc)] at h2
      repeat refine nx ?_
      refine N_round ⟨(j : Int), by omega, by omega, h2⟩ (by dsimp only; omega) (St.le_of ⟨⟨rfl, rfl, ?_⟩, trivial⟩)
      exact congrArg (fun x => lv (.int .i64 x)) (show (j : Int) + 1 - 1 = j by omega)
  · have e0 : i.toNat = 0 := by omega
    rw [e0, sortedA] at h2
    rw [← h2]
    repeat refine nx ?_
    refine rt2 [] (congrArg (fun x => lv (.bool x)) ?_) trivial; (simp [eqCs, Cell.kill, Cell.kill1])
end Go.Proofs.Ythoaneleeabadaa

namespace Go.Proofs.Ythoaneleeabadaa
set_option linter.unusedSimpArgs false
set_option linter.unusedVariables false
open Go.Sx

set_option maxRecDepth 10000

theorem wholesA_le (l : List Int) (hw : WfB l) : ∀ (n p : Nat) (acc : List (List Int)), p ≤ l.length → acc.length ≤ p → (∀ r ∈ acc, r.length ≤ l.length) → (wholesA l n p acc).1.length ≤ l.length ∧ ∀ r ∈ (wholesA l n p acc).1, r.length ≤ l.length
  | 0, p, acc, hp, ha, hr => ⟨by unfold wholesA; dsimp only; omega, hr⟩
  | n + 1, p, acc, hp, ha, hr => by
    unfold wholesA
    split
    · exact ⟨by dsimp only; omega, hr⟩
    · split
      · exact ⟨Nat.zero_le _, fun r h => by cases h⟩
      · rename_i h1 h2
        have hf := one_fwd l p (by omega) hw (by simpa using h2)
        have hle := one_le l p hp hw
        refine wholesA_le l hw n _ _ hle.2.1 (by simp; omega) fun r h => ?_
        rcases List.mem_append.1 h with h | h
        · exact hr r h
        · rw [List.mem_singleton.1 h]; exact hle.2.2.1
theorem wholesP_le (l : List Int) (p : Nat) (hp : p ≤ l.length) (hw : WfB l) : (wholesP l p).1.length ≤ l.length ∧ ∀ r ∈ (wholesP l p).1, r.length ≤ l.length :=
  wholesA_le l hw _ p [] hp (Nat.zero_le _) (fun r h => by cases h)
theorem wholes_nil : Ct Try.prog 28 [.c (.lf (.v (.pointer none)))] [] (.tup [.c (.lf (.recs 1 (recB []))), lv (.int .i64 17)]) [] [] := by
  refine Ct_intro Try.func28 rfl rfl rfl rfl rfl (fun E hn hb => ?_)
  repeat refine nx ?_
  exact rtU []
set_option maxHeartbeats 4000000 in
theorem sorted_ok (l : List Int) (p : Nat) (hp : p ≤ l.length) (hl : l.length ≤ 100000) (hw : WfB l) :
    Ct Try.prog 26 [.c (.ptr 0 0)] [curB l p] (.tup [lv (.bool (if (wholesP l p).2 = 0 then sortedA (wholesP l p).1 ((wholesP l p).1.length - 1) else false)), lv (.int .i64 (wholesP l p).2)]) [curB l p] [] := by
  have hat := at_ok l p
  have hwh := wholes_ok l p hp hl hw
  have hle := wholesP_le l p hp hw
  generalize wholesP l p = W at *
  obtain ⟨ms, e⟩ := W
  dsimp only at *
  have hso := issorted_ok ms (by omega) (fun r h => by have := hle.2 r h; omega)
  have hbk := back_ok l l.length p hp (by omega)
  refine Ct_intro Try.func26 rfl rfl rfl rfl rfl (fun E hn hb => ?_)
  by_cases he : e = 0
  · subst he
    rw [if_pos rfl] at hwh ⊢
    repeat refine nx ?_
    exact rtU []
  · rw [if_neg he] at hwh ⊢
    repeat refine nx ?_
    exact rtU []
end Go.Proofs.Ythoaneleeabadaa

namespace Go.Proofs.Ythoaneleeabadaa
set_option linter.unusedSimpArgs false
set_option linter.unusedVariables false
open Go.Sx

set_option maxRecDepth 10000

theorem sorted_step (ms : List (List Int)) (k : Nat) : (!(sortedA ms (k + 1))) = ((!(sortedA ms k)) || decide (0 < cmpL (ms.getD k []) (ms.getD (k + 1) []))) := by
  have h := cmpL_anti (ms.getD (k + 1) []) (ms.getD k [])
  rw [sortedA]
  by_cases h1 : cmpL (ms.getD (k + 1) []) (ms.getD k []) < 0
  · rw [if_pos h1]
    rw [decide_eq_true (h.1 h1)]; simp
  · rw [if_neg h1]
    rw [decide_eq_false (fun h2 => h1 (h.2 h2))]; simp
set_option maxHeartbeats 4000000 in
theorem wholes8_ok (b0 : List Int) (n : Int) (hb0 : b0.length ≤ 9223372036854775807) (hww : WfB b0) (hn0 : (Lit.int .i64 n).wf = true) : Ct Try.prog 4 [B8 b0, lv (.int .i64 n)] [] (lv (.bool true)) [] [] := by
  have hkn := known8_ok
  have hlw : (b0.take (min (b0.length : Int) 1000).toNat).length ≤ 1000 := by simp; omega
  have hwf : WfB (b0.take (min (b0.length : Int) 1000).toNat) := fun x hx => hww x (List.mem_of_mem_take hx)
  refine Ct_intro Try.func4 rfl rfl rfl rfl rfl (fun E hn hb => ?_)
  repeat refine nx ?_
  generalize b0.take (min (b0.length : Int) 1000).toNat = l at *
  have hcn := curnew_ok l (by omega)
  repeat refine nx ?_
  refine sp false rfl rfl (by rw [hn]; rfl) (by simp) ?_
  have hU : 0 ≤ IntKind.u64.wrap n ∧ IntKind.u64.wrap n < 18446744073709551616 := by simp only [IntKind.wrap, IntKind.signed, IntKind.bits]; simp; omega
  generalize IntKind.u64.wrap n = U at *
  repeat refine nx ?_
  have hR : 0 ≤ U % ((l.length : Int) + 1) ∧ U % ((l.length : Int) + 1) < (l.length : Int) + 1 := ⟨Int.emod_nonneg _ (by omega), Int.emod_lt_of_pos _ (by omega)⟩
  generalize U % ((l.length : Int) + 1) = R at *
  obtain ⟨p, rfl⟩ : ∃ p : Nat, R = p := ⟨R.toNat, by omega⟩
  have hp : p ≤ l.length := by omega
  have htk := take_ok l 0 p (by omega) (by omega)
  rw [Nat.zero_add] at htk
  have hso := sorted_ok l p hp (by omega) hwf
  have hat := at_ok l p
  have hae := at_ok l l.length
  have hwh := wholes_ok l p hp (by omega) hwf
  have hrw := refwholes_ok l p hp (by omega) hwf
  have hwn := wholes_nil
  have hle := wholesP_le l p hp hwf
  generalize wholesP l p = W at *
  obtain ⟨ms, e⟩ := W
  dsimp only at *
  by_cases he : e = 0
  · subst he
    rw [if_pos rfl] at hwh hso
    repeat refine nx ?_
    have hrb : RowsB ms := fun r h => by have := hle.2 r h; omega
    refine W_weaken (St.le_of (l := [(0, B8 l), (5, .c (.ptr 94 0)), (6, lv (.bool (sortedA ms (ms.length - 1)))), (8, rowsA ms), (10, rowsA ms), (12, lv (.bool (!(sortedA ms (0 - 1))))), (13, lv (.int .i64 ((0 : Nat) : Int)))]) (h := [(94, curB l l.length)]) (by refine ⟨?_, ?_⟩ <;> (repeat' (first | exact trivial | exact rfl | refine ⟨?_, ?_⟩)) <;> first | exact rfl | (simp; done) | skip)) ?_
    refine W_loop (ι := {i : Nat // i ≤ ms.length}) (fun i => St.of [(0, B8 l), (5, .c (.ptr 94 0)), (6, lv (.bool (sortedA ms (ms.length - 1)))), (8, rowsA ms), (10, rowsA ms), (12, lv (.bool (!(sortedA ms (i.1 - 1))))), (13, lv (.int .i64 (i.1 : Int)))] [(94, curB l l.length)]) (fun i => ms.length - i.1) (fun i => ?_) ⟨0, Nat.zero_le _⟩
    obtain ⟨i, hi⟩ := i
    dsimp only
    by_cases hi2 : i < ms.length
    · have hm1 : (i : Int) ≤ 1000 := by omega
      rcases i with _ | k
      · repeat refine nx ?_
        refine duc1 (hF := same_ok _ _ (getD_rows hrb _) (getD_rows hrb _)) ?_
        repeat refine nx ?_
        refine duh1 (hF := compare_ok _ _ (getD_rows hrb _) (getD_rows hrb _)) ?_
        repeat refine nx ?_
        refine N_round ⟨1, by omega⟩ (by dsimp only; omega) (St.le_of ⟨⟨rfl, rfl, rfl, rfl, rfl, ?_, rfl⟩, rfl⟩)
        refine Eq.trans (b := lv (.bool (!(sortedA ms 0)))) ?_ rfl
        refine congrArg (fun x => lv (.bool x)) ?_
        simp [sortedA]
      · have hst := sorted_step ms k
        generalize hs : sortedA ms (k + 1 - 1) = S at *
        change sortedA ms k = S at hs
        rw [hs] at hst
        cases S
        · repeat refine nx ?_
          refine duc1 (hF := same_ok _ _ (getD_rows hrb _) (getD_rows hrb _)) ?_
          repeat refine nx ?_
          refine duh1 (hF := compare_ok _ _ (getD_rows hrb _) (getD_rows hrb _)) ?_
          repeat refine nx ?_
          refine N_round ⟨k + 1 + 1, by omega⟩ (by dsimp only; omega) (St.le_of ⟨⟨rfl, rfl, rfl, rfl, rfl, ?_, rfl⟩, rfl⟩)
          refine Eq.trans (b := lv (.bool (!(sortedA ms (k + 1))))) ?_ rfl
          rw [hst]
          refine congrArg (fun x => lv (.bool x)) ?_
          first | rfl | (simp; done)
        · repeat refine nx ?_
          refine duc1 (hF := same_ok _ _ (getD_rows hrb _) (getD_rows hrb _)) ?_
          repeat refine nx ?_
          refine duh1 (hF := compare_ok _ _ (getD_rows hrb _) (getD_rows hrb _)) ?_
          repeat refine nx ?_
          refine N_round ⟨k + 1 + 1, by omega⟩ (by dsimp only; omega) (St.le_of ⟨⟨rfl, rfl, rfl, rfl, rfl, ?_, rfl⟩, rfl⟩)
          refine Eq.trans (b := lv (.bool (!(sortedA ms (k + 1))))) ?_ rfl
          rw [hst]
          refine congrArg (fun x => lv (.bool x)) ?_
          first | rfl | (simp; done)
    · obtain rfl : i = ms.length := by omega
      repeat refine nx ?_
      refine rt2 [] (congrArg (fun x => lv (.bool x)) ?_) trivial; (simp [eqCs, Cell.kill, Cell.kill1])
  · rw [if_neg he] at hwh hso
    repeat refine nx ?_
    refine rt2 [] (congrArg (fun x => lv (.bool x)) ?_) trivial; (simp [eqCs, Cell.kill, Cell.kill1])
end Go.Proofs.Ythoaneleeabadaa

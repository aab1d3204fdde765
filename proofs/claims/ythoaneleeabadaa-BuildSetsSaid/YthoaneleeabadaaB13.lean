/-
  Chapter 08's law BuildWholes, walked: it returns true. The conditions: bytes that a machine can hold.
-/
import Derived.Test.YthoaneleeabadaaB5
import Derived.Test.YthoaneleeabadaaW9
import Derived.Test.YthoaneleeabadaaSxZ
namespace Go.Proofs.Ythoaneleeabadaa
set_option linter.unusedSimpArgs false
set_option linter.unusedVariables false
open Go.Sx

set_option maxRecDepth 10000

theorem stable_ok (rs : List (List Int)) (hl : rs.length ≤ 19) (hr : RowsB rs) :
    Ct Try.prog 104 [.c (.own 0 1 0 rs.length), lv (.int .i64 (rs.length : Int)), .c (.fn (.func 64) [] [])] [rowR rs] (.tup []) [rowR (isortA 1 (rs.length - 1) rs)] [] := by
  have h := isort_ok rs (by omega) hr
  refine Ct_intro Try.func104 rfl rfl rfl rfl rfl (fun E hn hb => ?_)
  repeat refine nx ?_
  refine W_once ?_
  repeat refine nx ?_
  refine W_once ?_
  repeat refine nx ?_
  exact rt1 []
theorem sortS_ok (rs : List (List Int)) (hl : rs.length ≤ 19) (hr : RowsB rs) :
    Ct Try.prog 73 [.c (.own 0 1 0 rs.length), .c (.fn (.func 64) [] [])] [rowR rs] (.tup []) [rowR (isortA 1 (rs.length - 1) rs)] [] := by
  have h := stable_ok rs hl hr
  refine Ct_intro Try.func73 rfl rfl rfl rfl rfl (fun E hn hb => ?_)
  repeat refine nx ?_
  exact rt1 []
theorem cloneR_ok (rs : List (List Int)) (hl : rs.length ≤ 1000) : Ct Try.prog 72 [rowsA rs] [] (.c (.own 0 1 0 rs.length)) [] [rowR rs] := by
  refine Ct_intro Try.func72 rfl rfl rfl rfl rfl (fun E hn hb => ?_)
  repeat refine nx ?_
  refine s_nilS (neg := false) rfl rfl (by rw [hn]; rfl) Try.underlying27 rfl (by simp) (by simp [szD]) (fun b hbl => ?_)
  simp [lenD] at hbl
  cases b with
  | true =>
    obtain rfl := hbl rfl
    repeat refine nx ?_
    refine N_own_nil 2 64 1 (.recs 1 []) rfl rfl (.inr (.inr ⟨_, rfl⟩)) ?_
    exact rt1 [64]
  | false =>
    repeat refine nx ?_
    refine rt2 [69] ?_ ?_
    · simp; rfl
    · simp; rfl
def isortL (rs : List (List Int)) : List (List Int) := isortA 1 (rs.length - 1) rs
theorem isortA_len : ∀ (n i : Nat) (rs : List (List Int)), (isortA i n rs).length = rs.length
  | 0, _, _ => rfl
  | n + 1, i, rs => by rw [isortA, isortA_len n, bubD_len]
theorem setOf_ok (rs : List (List Int)) (hl : rs.length ≤ 19) (hr : RowsB rs) (hf : (isortL rs).flatten.length ≤ 1000000) :
    Ct Try.prog 36 [rowsA rs] [] (.tup [B8 (wrapL (ofT 17) (isortL rs).flatten), lv (.int .i64 0)]) [] [] := by
  have h1 := cloneR_ok rs (by omega)
  have h2 := sortS_ok rs hl hr
  have hil := isortA_len (rs.length - 1) 1 rs
  have h3 := headof_ok 17
  have h4 := wrap_ok (ofT 17) (isortL rs) (by decide) (by unfold isortL; omega) hf
  change Ct Try.prog _ _ _ _ [rowR (isortL rs)] _ at h2
  change (isortL rs).length = _ at hil
  generalize isortL rs = ss at *
  generalize wrapL (ofT 17) ss.flatten = W at *
  refine Ct_intro Try.func36 rfl rfl rfl rfl rfl (fun E hn hb => ?_)
  repeat refine nx ?_
  rw [← hil]
  refine frzL 10 ?_
  repeat refine nx ?_
  exact rtU []

/-! The document's order. -/
/-- Where the document puts one more. -/
def atO (out : List (List Int)) (x : List Int) : Nat → Nat
  | 0 => 0
  | n + 1 => if 0 < cmpL (out.getD n []) x then atO out x n else n + 1
def insO (out : List (List Int)) (x : List Int) : List (List Int) := out.take (atO out x out.length) ++ x :: out.drop (atO out x out.length)
def orderL : List (List Int) → List (List Int) → List (List Int)
  | [], out => out
  | x :: l, out => orderL l (insO out x)
end Go.Proofs.Ythoaneleeabadaa

namespace Go.Proofs.Ythoaneleeabadaa
set_option linter.unusedSimpArgs false
set_option linter.unusedVariables false
open Go.Sx

set_option maxRecDepth 10000

theorem flat_next (rs : List (List Int)) (i : Nat) (h : i < rs.length) : (rs.take (i + 1)).flatten = (rs.take i).flatten ++ rs.getD i [] ∧ (rs.take (i + 1)).flatten.length ≤ rs.flatten.length := by
  refine ⟨by rw [List.take_succ_eq_append_getElem h, List.flatten_append, List.flatten_cons, List.flatten_nil, List.append_nil, List.getD_eq_getElem?_getD, List.getElem?_eq_getElem h]; rfl, ?_⟩
  have := congrArg List.length (congrArg List.flatten (List.take_append_drop (i + 1) rs))
  simp only [List.flatten_append, List.length_append] at this
  omega
/-- At most ten of at most 100 bytes. -/
def fewR (rs : List (List Int)) : List (List Int) := (rs.take 10).map (·.take 100)
theorem few_next (rs : List (List Int)) (i : Nat) (h : i < rs.length) : (rs.take (i + 1)).map (·.take 100) = (rs.take i).map (·.take 100) ++ [(rs.getD i []).take 100] := by
  rw [List.take_succ_eq_append_getElem h, List.map_append, List.map_cons, List.map_nil, List.getD_eq_getElem?_getD, List.getElem?_eq_getElem h]; rfl
theorem min100 (x : List Int) : x.take (min (x.length : Int) 100).toNat = x.take 100 := by
  rcases Nat.le_total x.length 100 with h | h
  · rw [show (min (x.length : Int) 100).toNat = x.length by omega, List.take_length, List.take_of_length_le h]
  · rw [show (min (x.length : Int) 100).toNat = 100 by omega]
set_option maxHeartbeats 4000000 in
theorem few8_ok (rs : List (List Int)) (hl : rs.length ≤ 9223372036854775807) : Ct Try.prog 11 [rowsA rs] [] (.c (.lf (.recs 1 (recB (fewR rs))))) [] [] := by
  refine Ct_intro Try.func11 rfl rfl rfl rfl rfl (fun E hn hb => ?_)
  repeat refine nx ?_
  refine W_own_nil 3 900 1 (.recs 1 []) rfl rfl (.inr (.inr ⟨_, rfl⟩)) ?_
  refine W_weaken (St.le_of (l := [(0, rowsA rs), (3, .c (.own 900 1 0 0)), (4, lv (.int .i64 ((0 : Nat) : Int)))]) (h := [(900, .row (.recs 1 []))]) (by refine ⟨?_, ?_⟩ <;> (repeat' (first | exact trivial | exact rfl | refine ⟨?_, ?_⟩)) <;> first | exact rfl | (simp; done) | skip)) ?_
  refine W_loop (ι := {i : Nat // i ≤ rs.length ∧ i ≤ 10}) (fun i => St.of [(0, rowsA rs), (3, .c (.own 900 1 0 (recB ((rs.take i.1).map (·.take 100))).length)), (4, lv (.int .i64 (i.1 : Int)))] [(900, .row (.recs 1 (recB ((rs.take i.1).map (·.take 100)))))]) (fun i => 10 - i.1) (fun i => ?_) ⟨0, by omega, by omega⟩
  obtain ⟨i, hi, hi10⟩ := i
  dsimp only
  by_cases hi2 : i < rs.length ∧ i < 10
  · have h1 := few_next rs i hi2.1
    have h2 := min100 (rs.getD ((i : Nat) : Int).toNat [])
    generalize hacc : (rs.take i).map (·.take 100) = acc at *
    have hrec : recB (acc ++ [(rs.getD i []).take 100]) = recB acc ++ [[.ints .u8 ((rs.getD i []).take 100)]] := by simp [recB]
    have hal : acc.length ≤ 10 := by rw [← hacc]; simp; omega
    repeat refine nxw ?_
    refine W_drawW 13 (by kernel_rfl) (by kernel_rfl) (by kernel_rfl) (by rw [hn]; rfl) rfl rfl ?_
    repeat refine nx ?_
    rw [h2]
    repeat refine nx ?_
    refine N_round ⟨i + 1, by omega, by omega⟩ (by dsimp only; omega) (St.le_of ⟨⟨rfl, ?_, rfl⟩, ?_⟩)
    · dsimp only; rw [h1, hrec]; rfl
    · dsimp only; rw [h1, hrec]; rfl
  · have h1 : (rs.take i).map (·.take 100) = fewR rs := by
      unfold fewR
      by_cases h : i = 10
      · rw [h]
      · rw [List.take_of_length_le (show rs.length ≤ i by omega), List.take_of_length_le (show rs.length ≤ 10 by omega)]
    rw [h1]
    repeat refine nx ?_
    refine frzN 2 ?_
    exact rt1 []
theorem fewR_len (rs : List (List Int)) : (fewR rs).length ≤ 10 := by unfold fewR; simp; omega
theorem fewR_rows (rs : List (List Int)) : ∀ r ∈ fewR rs, r.length ≤ 100 := by
  intro r hr
  obtain ⟨q, _, rfl⟩ := List.mem_map.1 hr
  simp
  omega
theorem flat_le : ∀ (rs : List (List Int)) (k : Nat), (∀ r ∈ rs, r.length ≤ k) → rs.flatten.length ≤ k * rs.length
  | [], _, _ => by simp
  | r :: rs, k, h => by
    have h1 := flat_le rs k fun x hx => h x (List.mem_cons_of_mem _ hx)
    have h2 := h r (List.mem_cons_self ..)
    simp only [List.flatten_cons, List.length_append, List.length_cons, Nat.mul_add, Nat.mul_one]
    omega
theorem ins_len (out : List (List Int)) (x : List Int) : (insO out x).length = out.length + 1 := by
  unfold insO
  simp
  omega
end Go.Proofs.Ythoaneleeabadaa

namespace Go.Proofs.Ythoaneleeabadaa
set_option linter.unusedSimpArgs false
set_option linter.unusedVariables false
open Go.Sx

theorem cmpL_anti : ∀ a b : List Int, cmpL a b < 0 ↔ 0 < cmpL b a
  | [], [] => by simp [cmpL]
  | [], _ :: _ => by simp [cmpL]
  | _ :: _, [] => by simp [cmpL]
  | x :: a, y :: b => by
    have ih := cmpL_anti a b
    simp only [cmpL]
    (repeat' split) <;> first | omega | exact ih
theorem bub_swap (P D : List (List Int)) (o x : List Int) : (((P ++ [o]) ++ x :: D).set (P.length + 1) o).set P.length x = P ++ x :: (o :: D) := by
  rw [List.append_assoc, List.set_append_right _ _ (by omega), show P.length + 1 - P.length = 1 by omega, List.set_append_right _ _ (by omega), Nat.sub_self]
  rfl
theorem bub_ins (out rest : List (List Int)) (x : List Int) : ∀ k, k ≤ out.length → bubD k (out.take k ++ x :: (out.drop k ++ rest)) = out.take (atO out x k) ++ x :: (out.drop (atO out x k) ++ rest)
  | 0, _ => rfl
  | k + 1, hk => by
    have ht : out.take (k + 1) = out.take k ++ [out.getD k []] := by
      rw [List.take_succ_eq_append_getElem (by omega), List.getD_eq_getElem?_getD, List.getElem?_eq_getElem (by omega)]; rfl
    have hd : out.drop k = out.getD k [] :: out.drop (k + 1) := by
      rw [List.drop_eq_getElem_cons (by omega), List.getD_eq_getElem?_getD, List.getElem?_eq_getElem (by omega)]; rfl
    have hl : (out.take k).length = k := by simp; omega
    rw [ht, bubD, atO]
    have g1 : (out.take k ++ [out.getD k []] ++ x :: (out.drop (k + 1) ++ rest)).getD (k + 1) [] = x := by
      rw [List.getD_eq_getElem?_getD, List.getElem?_append_right (by simp; omega)]
      simp [hl]
    have g2 : (out.take k ++ [out.getD k []] ++ x :: (out.drop (k + 1) ++ rest)).getD k [] = out.getD k [] := by
      rw [List.getD_eq_getElem?_getD, List.append_assoc, List.getElem?_append_right (by omega), hl, Nat.sub_self]
      rfl
    rw [g1, g2]
    by_cases h : cmpL x (out.getD k []) < 0
    · rw [if_pos h, if_pos ((cmpL_anti _ _).1 h)]
      have sw := bub_swap (out.take k) (out.drop (k + 1) ++ rest) (out.getD k []) x
      rw [hl] at sw
      rw [sw, ← List.cons_append, ← hd]
      exact bub_ins out rest x k (by omega)
    · rw [if_neg h, if_neg (fun h2 => h ((cmpL_anti _ _).2 h2)), ht]
theorem isort_order : ∀ (l out : List (List Int)), isortA out.length l.length (out ++ l) = orderL l out
  | [], out => by simp [isortA, orderL]
  | x :: l, out => by
    have h := bub_ins out l x out.length (Nat.le_refl _)
    rw [List.take_length, List.drop_length, List.nil_append] at h
    rw [List.length_cons, isortA, h, orderL]
    have e : out.take (atO out x out.length) ++ x :: (out.drop (atO out x out.length) ++ l) = insO out x ++ l := by simp [insO]
    rw [e, ← ins_len out x]
    exact isort_order l (insO out x)
theorem isortL_order (rs : List (List Int)) : isortL rs = orderL rs [] := by
  cases rs with
  | nil => rfl
  | cons x l => exact isort_order l [x]
theorem insO_perm (out : List (List Int)) (x : List Int) : (insO out x).flatten.length = out.flatten.length + x.length := by
  have := congrArg List.length (congrArg List.flatten (List.take_append_drop (atO out x out.length) out))
  simp only [List.flatten_append, List.length_append] at this
  simp only [insO, List.flatten_append, List.flatten_cons, List.length_append]
  omega
theorem orderL_flat : ∀ (l out : List (List Int)), (orderL l out).flatten.length = out.flatten.length + l.flatten.length
  | [], out => by simp [orderL]
  | x :: l, out => by rw [orderL, orderL_flat l, insO_perm]; simp; omega
end Go.Proofs.Ythoaneleeabadaa

namespace Go.Proofs.Ythoaneleeabadaa
set_option linter.unusedSimpArgs false
set_option linter.unusedVariables false
open Go.Sx

set_option maxRecDepth 10000

abbrev nilC : Cell := .lf (.v (.slice none 0 0))
/-- A sheet: its frame's tag, bytes, the frames around, the error. -/
abbrev shC (t : TagP) (b a : Cell) (e : Int) : Blk := .cells [i64c t.1, i64c t.2.1, .lf (.v (.bool t.2.2)), .lf (.v (.bool false)), b, a, i64c e]
abbrev frame0 : List Leaf := [.v (.int .i64 0), .v (.int .i64 0), .v (.bool false), .v (.bool false), .v (.slice none 0 0)]
abbrev arL : Leaf := .recs 5 [frame0]
abbrev arC : Cell := .lf arL
abbrev sh0 : Blk := shC tag0 nilC nilC 0
/-- A sheet with one frame open, with so many bytes. -/
abbrev sh1 (t : TagP) (l : List Int) (e : Int) : Blk := shC t (.own 1 1 0 l.length) arC e
abbrev r8 (l : List Int) : Blk := .row (.ints .u8 l)
theorem bnew_ok : Ct Try.prog 9 [] [] (.c (.ptr 0 0)) [] [sh0] := by
  refine Ct_intro Try.func9 rfl rfl rfl rfl rfl (fun E hn hb => ?_)
  repeat refine nx ?_
  exact rt1 [66]
theorem boff_ok (t : TagP) (l : List Int) (e : Int) : Ct Try.prog 50 [.c (.ptr 0 0)] [sh1 t l e, r8 l] (lv (.bool (bif false then true else e != 0))) [sh1 t l e, r8 l] [] := by
  refine Ct_intro Try.func50 rfl rfl rfl rfl rfl (fun E hn hb => ?_)
  repeat refine nx ?_
  exact rt1 []
theorem boff0_ok : Ct Try.prog 50 [.c (.ptr 0 0)] [sh0] (lv (.bool false)) [sh0] [] := by
  refine Ct_intro Try.func50 rfl rfl rfl rfl rfl (fun E hn hb => ?_)
  repeat refine nx ?_
  exact rt1 []
theorem bopen_ok (t : TagP) : Ct Try.prog 52 [.c (.ptr 0 0), .agg [i64c t.1, i64c t.2.1, .lf (.v (.bool t.2.2)), .lf (.v (.bool false)), nilC]] [sh0] (.tup []) [sh1 t [] 0] [r8 []] := by
  have h := boff0_ok
  refine Ct_intro Try.func52 rfl rfl rfl rfl rfl (fun E hn hb => ?_)
  repeat refine nx ?_
  refine N_sr (fun a w h => SR.cell_nil 0 4 900 rfl rfl rfl rfl rfl h) ?_
  exact rt1 [900]
theorem bOpen_ok (t : TagP) : Ct Try.prog 13 [.c (.ptr 0 0), tagA t] [sh0] (.tup []) [sh1 t [] 0] [r8 []] := by
  have h := bopen_ok t
  refine Ct_intro Try.func13 rfl rfl rfl rfl rfl (fun E hn hb => ?_)
  repeat refine nx ?_
  exact rt1 [71]
theorem badd_ok (t : TagP) (l x : List Int) (fr : List (List Leaf)) (e : Int) (hl : l.length + x.length ≤ 1000000) :
    CtM Try.prog 51 [.c (.ptr 0 0), B8 x] [shC t (.own 1 1 0 l.length) (.lf (.recs 5 fr)) e, r8 l] (.tup []) [shC t (.own 2 1 0 (l ++ x).length) (.lf (.recs 5 fr)) e, .gone] [r8 (l ++ x)] := by
  have e0 : l.take (0 + l.length) = l := by simp
  refine CtM_intro Try.func51 rfl rfl rfl rfl rfl (fun E hn hb => ?_)
  repeat refine nx ?_
  refine s_appendK 900 rfl rfl rfl rfl rfl (by rw [hn]; rfl) (elt_mk Try.underlying41 rfl rfl) rfl rfl rfl rfl ?_ (by simp) ⟨by omega, by decide⟩ ?_ ?_
  · trivial
  · rw [e0]
    repeat refine nx ?_
    rw [← List.length_append]
    exact N_endM [1] rfl (by trivial) ⟨rfl, ⟨.inr rfl, .inl rfl⟩, rfl, rfl⟩ hb rfl
  · rw [e0, List.drop_zero]
    repeat refine nx ?_
    rw [← List.length_append]
    exact N_endM [900] rfl (by trivial) ⟨rfl, ⟨.inr rfl, .inl rfl⟩, rfl, rfl⟩ hb rfl
/-- One row put. -/
theorem bput_ok (t : TagP) (l x : List Int) (hl : l.length + x.length ≤ 1000000) :
    CtM Try.prog 12 [.c (.ptr 0 0), rowsA [x]] [sh1 t l 0, r8 l] (.tup []) [shC t (.own 2 1 0 (l ++ x).length) arC 0, .gone] [r8 (l ++ x)] := by
  have h := boff_ok t l 0
  have ha := badd_ok t l x [frame0] 0 hl
  refine CtM_intro Try.func12 rfl rfl rfl rfl rfl (fun E hn hb => ?_)
  repeat refine nx ?_
  refine W_weaken (St.le_of (l := [(0, .c (.ptr 0 0)), (8, rowsA [x]), (9, lv (.int .i64 1)), (10, lv (.int .i64 0))]) (h := [(0, sh1 t l 0), (1, r8 l)]) (by refine ⟨?_, ?_⟩ <;> (repeat' (first | exact trivial | exact rfl | refine ⟨?_, ?_⟩)) <;> first | exact rfl | (simp; done) | skip)) ?_
  refine W_loop (ι := Bool) (fun i => match i with
    | false => St.of [(0, .c (.ptr 0 0)), (8, rowsA [x]), (9, lv (.int .i64 1)), (10, lv (.int .i64 0))] [(0, sh1 t l 0), (1, r8 l)]
    | true => St.of [(8, rowsA [x]), (9, lv (.int .i64 1)), (10, lv (.int .i64 1))] [(0, shC t (.own 82 1 0 (l ++ x).length) arC 0), (82, r8 (l ++ x))]) (fun i => match i with | false => 1 | true => 0) (fun i => ?_) false
  cases i with
  | false =>
    dsimp only
    repeat refine nx ?_
    refine s_callM [0, 1] ha rfl rfl (by rw [hn]; rfl) rfl rfl (by trivial) ⟨rfl, ⟨rfl, rfl⟩, (by simp [ordL]), rfl⟩ ?_
    repeat refine nx ?_
    refine N_round true (by decide) (St.le_of ⟨⟨rfl, rfl, rfl⟩, ⟨rfl, rfl⟩⟩)
  | true =>
    dsimp only
    repeat refine nx ?_
    exact N_retM [82] rfl (by trivial) ⟨rfl, ⟨.inr rfl, .inl rfl⟩, rfl, rfl⟩ hb rfl
/-- A sheet whose bytes are data. -/
abbrev shL (t : TagP) (l : List Int) (a : Leaf) (e : Int) : List Leaf := [.v (.int .i64 t.1), .v (.int .i64 t.2.1), .v (.bool t.2.2), .v (.bool false), .ints .u8 l, a, .v (.int .i64 e)]
abbrev shD (t : TagP) (l : List Int) (a : Leaf) (e : Int) : Blk := shC t (.lf (.ints .u8 l)) (.lf a) e
theorem boffD_ok (t : TagP) (l : List Int) (a : Leaf) (e : Int) : Ct Try.prog 50 [.c (.lf (.obj (shL t l a e)))] [] (lv (.bool (bif false then true else e != 0))) [] [] := by
  refine Ct_intro Try.func50 rfl rfl rfl rfl rfl (fun E hn hb => ?_)
  repeat refine nx ?_
  exact rt1 []
theorem bwhole_ok (t : TagP) (l : List Int) (hl : l.length ≤ 1000000) : Ct Try.prog 53 [.c (.ptr 0 0)] [shD t l arL 0] (.tup [B8 (wrapR t l).1, lv (.int .i64 (wrapR t l).2)]) [shD t l arL 0] [] := by
  have h := wrapR_ok t [l] (by simp) (by simp; omega)
  rw [show [l].flatten = l by simp] at h
  refine Ct_intro Try.func53 rfl rfl rfl rfl rfl (fun E hn hb => ?_)
  repeat refine nx ?_
  exact rt1 []
theorem bshut_ok (t : TagP) (l : List Int) (h : rightT t = true) (hl : l.length ≤ 900000) : Ct Try.prog 16 [.c (.ptr 0 0)] [shD t l arL 0] (.tup []) [shC tag0 (.own 1 1 0 (wrapL t l).length) (.lf (.recs 5 [])) 0] [r8 (wrapL t l)] := by
  have h0 := boffD_ok t l arL 0
  have h1 := bwhole_ok t l (by omega)
  have hw := wrap_len t l
  unfold wrapR at h1
  rw [if_pos h] at h1
  have h2 := badd_ok tag0 [] (wrapL t l) [] 0 (by simp; omega)
  rw [List.nil_append] at h2
  generalize wrapL t l = W at *
  dsimp only at h1
  refine Ct_intro Try.func16 rfl rfl rfl rfl rfl (fun E hn hb => ?_)
  repeat refine nx ?_
  refine WL_sr (fun a w h => SR.cell_nil 0 4 900 rfl rfl rfl rfl rfl h) ?_
  refine s_callM [0, 900] h2 rfl rfl (by rw [hn]; rfl) rfl rfl (by trivial) ⟨rfl, ⟨rfl, rfl⟩, (by simp [ordL]), rfl⟩ ?_
  repeat refine nx ?_
  exact rt1 [116]
theorem bbytes_ok (l : List Int) (hl : l.length ≤ 1000000) : Ct Try.prog 19 [.c (.ptr 0 0)] [shD tag0 l (.recs 5 []) 0] (.tup [B8 l, lv (.int .i64 0)]) [shD tag0 l (.recs 5 []) 0] [] := by
  have h := clone_ok l hl
  refine Ct_intro Try.func19 rfl rfl rfl rfl rfl (fun E hn hb => ?_)
  repeat refine nx ?_
  exact rt1 []
end Go.Proofs.Ythoaneleeabadaa

namespace Go.Proofs.Ythoaneleeabadaa
set_option linter.unusedSimpArgs false
set_option linter.unusedVariables false
open Go.Sx

set_option maxRecDepth 10000

theorem ex8a : wrapL (ofT 16) [5, 0] = [48, 2, 5, 0] := by decide +kernel
theorem ex8b : wrapL (ofT 17) (isortL [[2, 1, 5], [1, 1, 255]]).flatten = [49, 6, 1, 1, 255, 2, 1, 5] := by decide +kernel
theorem ex8c : implP 1 [4, 1, 7] = ([129, 1, 7], 0) := by decide +kernel
theorem hx_of (A : List Int) (s : ByteArray) (hl : A.length ≤ 1000) (hw : WfB A) (h : strOfNums (hexL A) = s) : Ct Try.prog 59 [B8 A] [] (lv (.string s)) [] [] := by
  have := hex_ok A (by omega) hw
  rw [h] at this
  exact this
set_option maxHeartbeats 4000000 in
theorem known8_ok : Ct Try.prog 23 [] [] (lv (.bool true)) [] [] := by
  have h1 := bnew_ok
  have h2 := headof_ok 16
  have h3 := bOpen_ok (ofT 16)
  have h4 := bput_ok (ofT 16) [] [5, 0] (by decide)
  have h5 := bshut_ok (ofT 16) [5, 0] (by decide) (by decide)
  rw [ex8a] at h5
  have h6 := bbytes_ok [48, 2, 5, 0] (by decide)
  have h7 := setOf_ok [[2, 1, 5], [1, 1, 255]] (by decide) (by intro r hr; simp at hr; rcases hr with rfl | rfl <;> decide) (by decide +kernel)
  rw [ex8b] at h7
  have h8 := implicit_ok 1 [4, 1, 7] (by decide) (by intro x hx; simp at hx; omega)
  rw [ex8c] at h8
  have h9 := hx_of [48, 2, 5, 0] ⟨#[51, 48, 48, 50, 48, 53, 48, 48]⟩ (by decide) (by intro x hx; simp at hx; omega) (by decide +kernel)
  have h10 := hx_of [49, 6, 1, 1, 255, 2, 1, 5] ⟨#[51, 49, 48, 54, 48, 49, 48, 49, 102, 102, 48, 50, 48, 49, 48, 53]⟩ (by decide) (by intro x hx; simp at hx; omega) (by decide +kernel)
  have h11 := hx_of [129, 1, 7] ⟨#[56, 49, 48, 49, 48, 55]⟩ (by decide) (by intro x hx; simp at hx; omega) (by decide +kernel)
  refine Ct_intro Try.func23 rfl rfl rfl rfl rfl (fun E hn hb => ?_)
  repeat refine nx ?_
  refine s_callM [72, 75] h4 rfl rfl (by rw [hn]; rfl) rfl rfl (by trivial) ⟨rfl, ⟨rfl, rfl⟩, (by simp [ordL]), rfl⟩ ?_
  repeat refine nx ?_
  refine frcL 79 72 ?_
  repeat refine nx ?_
  refine frcL 81 72 ?_
  repeat refine nx ?_
  refine rt2 [] (congrArg (fun x => lv (.bool x)) ?_) trivial; (simp [eqCs, Cell.kill, Cell.kill1])
end Go.Proofs.Ythoaneleeabadaa

namespace Go.Proofs.Ythoaneleeabadaa
set_option linter.unusedSimpArgs false
set_option linter.unusedVariables false
open Go.Sx

set_option maxRecDepth 10000

/-- Rows in order, from the end: n steps. -/
def sortedA (rs : List (List Int)) : Nat → Bool
  | 0 => true
  | n + 1 => if cmpL (rs.getD (n + 1) []) (rs.getD n []) < 0 then false else sortedA rs n
set_option maxHeartbeats 4000000 in
theorem issorted_ok (rs : List (List Int)) (hl : rs.length ≤ 1000000) (hr : RowsB rs) :
    Ct Try.prog 63 [rowsA rs, .c (.fn (.func 64) [] [])] [] (lv (.bool (sortedA rs (rs.length - 1)))) [] [] := by
  refine Ct_intro Try.func63 rfl rfl rfl rfl rfl (fun E hn hb => ?_)
  repeat refine nx ?_
  refine W_weaken (St.le_of (l := [(0, rowsA rs), (1, .c (.fn (.func 64) [] [])), (5, lv (.int .i64 (((recB rs).length : Int) - 1)))]) (h := []) (by refine ⟨?_, ?_⟩ <;> (repeat' (first | exact trivial | exact rfl | refine ⟨?_, ?_⟩)) <;> first | exact rfl | (simp; done) | skip)) ?_
  refine W_loop (ι := {i : Int // -1 ≤ i ∧ i < (rs.length : Int) ∧ sortedA rs i.toNat = sortedA rs (rs.length - 1)}) (fun i => St.of [(0, rowsA rs), (1, .c (.fn (.func 64) [] [])), (5, lv (.int .i64 i.1))] []) (fun i => i.1.toNat) (fun i => ?_) ⟨((recB rs).length : Int) - 1, ⟨by simp; omega, by simp; omega, by simp only [recB, List.length_map]; congr 1; omega⟩⟩
  obtain ⟨i, h0, h1, h2⟩ := i
  dsimp only
  by_cases hi : 0 < i
  · obtain ⟨j, rfl⟩ : ∃ j : Nat, i = (j : Int) + 1 := ⟨(i - 1).toNat, by omega⟩
    have e0 : ((j : Int) + 1).toNat = j + 1 := by omega
    have e1 : ((j : Int) + 1 - 1).toNat = j := by omega
    rw [e0, sortedA] at h2
    repeat refine nx ?_
    refine duc1 (hF := octcmp_ok _ _ (getD_rows hr _) (getD_rows hr _)) ?_
    repeat refine nx ?_
    refine W_cond rfl (by simp) (fun hc => ?_) (fun hc => ?_)
    · rw [if_pos (by simpa using hc)] at h2
      rw [← h2]
      repeat refine nx ?_
      refine rt2 [] (congrArg (fun x => lv (.bool x)) ?_) trivial; (simp [eqCs, Cell.kill, Cell.kill1])
    · rw [if_neg (by simpa using hc)] at h2
      repeat refine nx ?_
      refine N_round ⟨(j : Int), by omega, by omega, h2⟩ (by dsimp only; omega) (St.le_of ⟨⟨rfl, rfl, ?_⟩, trivial⟩)
      exact congrArg (fun x => lv (.int .i64 x)) (show (j : Int) + 1 - 1 = j by omega)
  · have e0 : i.toNat = 0 := by omega
    rw [e0, sortedA] at h2
    rw [← h2]
    repeat refine nx ?_
    refine rt2 [] (congrArg (fun x => lv (.bool x)) ?_) trivial; (simp [eqCs, Cell.kill, Cell.kill1])
end Go.Proofs.Ythoaneleeabadaa

namespace Go.Proofs.Ythoaneleeabadaa
set_option linter.unusedSimpArgs false
set_option linter.unusedVariables false
open Go.Sx

set_option maxRecDepth 10000

theorem wholesA_le (l : List Int) (hw : WfB l) : ∀ (n p : Nat) (acc : List (List Int)), p ≤ l.length → acc.length ≤ p → (∀ r ∈ acc, r.length ≤ l.length) → (wholesA l n p acc).1.length ≤ l.length ∧ ∀ r ∈ (wholesA l n p acc).1, r.length ≤ l.length
  | 0, p, acc, hp, ha, hr => ⟨by unfold wholesA; dsimp only; omega, hr⟩
  | n + 1, p, acc, hp, ha, hr => by
    unfold wholesA
    split
    · exact ⟨by dsimp only; omega, hr⟩
    · split
      · exact ⟨Nat.zero_le _, fun r h => by cases h⟩
      · rename_i h1 h2
        have hf := one_fwd l p (by omega) hw (by simpa using h2)
        have hle := one_le l p hp hw
        refine wholesA_le l hw n _ _ hle.2.1 (by simp; omega) fun r h => ?_
        rcases List.mem_append.1 h with h | h
        · exact hr r h
        · rw [List.mem_singleton.1 h]; exact hle.2.2.1
theorem wholesP_le (l : List Int) (p : Nat) (hp : p ≤ l.length) (hw : WfB l) : (wholesP l p).1.length ≤ l.length ∧ ∀ r ∈ (wholesP l p).1, r.length ≤ l.length :=
  wholesA_le l hw _ p [] hp (Nat.zero_le _) (fun r h => by cases h)
set_option maxHeartbeats 4000000 in
theorem sorted_ok (l : List Int) (p : Nat) (hp : p ≤ l.length) (hl : l.length ≤ 100000) (hw : WfB l) :
    Ct Try.prog 26 [.c (.ptr 0 0)] [curB l p] (.tup [lv (.bool (if (wholesP l p).2 = 0 then sortedA (wholesP l p).1 ((wholesP l p).1.length - 1) else false)), lv (.int .i64 (wholesP l p).2)]) [curB l p] [] := by
  have hat := at_ok l p
  have hwh := wholes_ok l p hp hl hw
  have hle := wholesP_le l p hp hw
  generalize wholesP l p = W at *
  obtain ⟨ms, e⟩ := W
  dsimp only at *
  have hso := issorted_ok ms (by omega) (fun r h => by have := hle.2 r h; omega)
  have hbk := back_ok l l.length p hp (by omega)
  refine Ct_intro Try.func26 rfl rfl rfl rfl rfl (fun E hn hb => ?_)
  by_cases he : e = 0
  · subst he
    rw [if_pos rfl] at hwh ⊢
    repeat refine nx ?_
    exact rtU []
  · rw [if_neg he] at hwh ⊢
    repeat refine nx ?_
    exact rtU []
end Go.Proofs.Ythoaneleeabadaa

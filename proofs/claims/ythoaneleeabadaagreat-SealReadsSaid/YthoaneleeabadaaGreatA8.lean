/-
  Bit strings: the document's parser and reader. The conditions: rows of bytes that a machine can hold.
-/
import Derived.Test.YthoaneleeabadaaGreatM3
import Derived.Test.YthoaneleeabadaaGreatC9
import Derived.Test.YthoaneleeabadaaGreatC13
import Derived.Test.YthoaneleeabadaaGreatSxQ
import Derived.Test.YthoaneleeabadaaGreatO3
namespace Go.Proofs.YthoaneleeabadaaGreat
set_option linter.unusedSimpArgs false
set_option linter.unusedVariables false
open Go.Sx
set_option maxRecDepth 10000
def Z8 : V8 := ⟨0, 0, 0, 0, 0, 0, 0, 0⟩
theorem new_ok : Ct Tryz.prog 115 [] [] (.c (.ptr 0 0)) [] [.cells (hC Z8 false (.lf (.v (.slice none 0 0))) 0)] := by
 refine Ct_intro Tryz.func115 rfl rfl rfl rfl rfl (fun E hn hb => ?_)
 repeat (refine nst ?_)
 refine s_boxN rfl rfl rfl (by rw [hn]; rfl) rfl (by exact vcs) rfl rfl ?_
 repeat (refine nst ?_)
 exact rt1 [66]
theorem begin_ok (v : V8) (bg : Bool) (o m : Nat) (n : Int) (l : List Int) : Ct Tryz.prog 149 [.c (.ptr 0 0)] [.cells (hC v bg (.own 1 1 o m) n), .row (.ints .u8 l)] (.tup []) [.cells (hC (cond bg v H0) true (.own 1 1 o m) n), .row (.ints .u8 l)] [] := by
 refine Ct_intro Tryz.func149 rfl rfl rfl rfl rfl (fun E hn hb => ?_)
 repeat (refine nst ?_)
 refine W_cond rfl (by simp) (fun hc => ?_) (fun hc => ?_)
 · have : bg = false := by simpa using hc
   subst this
   repeat (refine nst ?_)
   refine s_call0 (first_ok) rfl rfl rfl (by rw [hn]; rfl) rfl rfl (by exact vcs) rfl rfl rfl ?_
   repeat (refine nst ?_)
   refine s_storeN rfl rfl rfl rfl rfl (by exact vcs) rfl rfl rfl (by rw [cellsOf222]; rfl) (by rw [info222]; rfl) rfl rfl ?_
   repeat (refine nst ?_)
   refine s_storeN rfl rfl rfl rfl rfl (by exact vcs) rfl rfl rfl (by rw [cellsOf4]; rfl) (by rw [info4]; rfl) rfl rfl ?_
   repeat (refine nst ?_)
   exact rt1 []
 · have : bg = true := by simpa using hc
   subst this
   repeat (refine nst ?_)
   exact rt1 []
theorem cloneO_ok (l : List Int) (off len : Nat) (hl : off + len ≤ l.length) (hlen : len ≤ 1000000) : Ct Tryz.prog 89 [.c (.own 0 1 off len)] [.row (.ints .u8 l)] (.c (.own 1 1 0 len)) [.row (.ints .u8 l)] [.row (.ints .u8 ((l.drop off).take len))] := by
 refine Ct_intro Tryz.func89 rfl rfl rfl rfl rfl (fun E hn hb => ?_)
 repeat (refine nst ?_)
 refine s_nilS (neg := false) rfl rfl (by rw [hn]; rfl) Tryz.underlying23 (srcP_own rfl) ⟨rfl, hl⟩ (by simp [szD]) (fun b hb0 => ?_)
 have hll : ((l.drop off).take len).length = len := by simp; omega
 repeat (refine nst ?_)
 refine W_cond rfl (by simp) (fun hc => ?_) (fun hc => ?_)
 · have hb1 : b = true := by simpa using hc
   subst hb1
   have h0 : len = 0 := by
     have := hb0 rfl
     simp only [lenD] at this
     omega
   subst h0
   repeat (refine nst ?_)
   refine N_own_nil 2 100 1 (.ints .u8 []) rfl rfl (.inl rfl) ?_
   exact rt1 [100]
 · repeat (refine nst ?_)
   refine s_litI rfl rfl rfl (by rw [hn]; rfl) (elt_mk Tryz.underlying23 rfl rfl) (zok5) (by exact vcs) ⟨by decide, rfl⟩ ?_
   repeat (refine nst ?_)
   refine s_appI rfl rfl rfl rfl rfl rfl (by rw [hn]; rfl) (elt_mk Tryz.underlying23 rfl rfl) rfl rfl rfl (srcP_own rfl) ⟨rfl, hl⟩ (by first | rfl | (simp; done) | (simp; omega)) ⟨by rw [hll]; simp; omega, by decide⟩ ?_
   repeat (refine nst ?_)
   refine rt2 [69] ?_ ?_
   · exact congrArg (fun n => Av.c (.own 69 1 0 n)) (by simp; omega)
   · rfl
theorem hcopy_ok (v : V8) (bg : Bool) (m : Nat) (n : Int) (l : List Int) (hm : m = l.length) (hl : m ≤ 1000000) : Ct Tryz.prog 151 [.c (.ptr 0 0)] [.cells (hC v bg (.own 1 1 0 m) n), .row (.ints .u8 l)] (.c (.ptr 2 0)) [.cells (hC v bg (.own 1 1 0 m) n), .row (.ints .u8 l)] [.cells (hC v bg (.own 3 1 0 m) n), .row (.ints .u8 l)] := by
 have hcl := cloneO_ok l 0 m (by omega) hl
 have e : (l.drop 0).take m = l := by rw [List.drop_zero, List.take_of_length_le (by omega)]
 rw [e] at hcl
 refine Ct_intro Tryz.func151 rfl rfl rfl rfl rfl (fun E hn hb => ?_)
 repeat (refine nst ?_)
 refine WL_q (opq_of (opy_nilP (neg := false) rfl rfl rfl rfl (by exact vcs)) rfl) (by rw [hn]; rfl) ?_
 repeat (refine nst ?_)
 refine W_cond rfl (by simp) (fun hc => ?_) (fun hc => ?_)
 · simp at hc
 · repeat (refine nst ?_)
   refine s_allocN rfl rfl rfl (by rw [hn]; rfl) rfl zok224 ?_
   repeat (refine nst ?_)
   refine s_storeN rfl rfl rfl rfl rfl (by exact vcs) rfl rfl rfl (by rw [cellsOf224]; rfl) (by rw [info224]; rfl) rfl rfl ?_
   repeat (refine nst ?_)
   refine s_call [1] hcl rfl rfl (by rw [hn]; rfl) rfl rfl (by trivial) ⟨rfl, rfl, by simp [ordL], rfl⟩ ?_
   repeat (refine nst ?_)
   refine s_storeN rfl rfl rfl rfl rfl (by exact vcs) rfl rfl rfl (by rw [cellsOf23]; rfl) (by rw [info23]; rfl) rfl rfl ?_
   repeat (refine nst ?_)
   exact rt1 [67, 78]
end Go.Proofs.YthoaneleeabadaaGreat

namespace Go.Proofs.YthoaneleeabadaaGreat
set_option linter.unusedSimpArgs false
set_option linter.unusedVariables false
open Go.Sx
set_option maxRecDepth 10000
theorem wfl_at {l : List Int} (h : WfB l) (p : Nat) : 0 ≤ l.getD p 0 ∧ l.getD p 0 < 256 := by
 rw [List.getD_eq_getElem?_getD]
 cases hx : l[p]? with
 | none => exact ⟨by simp, by simp⟩
 | some x => exact h x (List.mem_of_getElem? hx)
abbrev bitA (u : Int) (l : List Int) : Av := .agg [.lf (.v (.int .i64 u)), .lf (.ints .u8 l)]
def rightS (u : Int) (l : List Int) : Bool := if l = [] then decide (u = 0) else decide (0 ≤ u) && decide (u ≤ 7) && decide (l.getD (l.length - 1) 0 % 2 ^ u.toNat = 0)
theorem mask8 : ∀ k : Fin 8, ∀ x : Fin 256, (IntKind.u8.wrap (BitVec.ofInt IntKind.u8.bits ((x.val : Nat) : Int) &&& BitVec.ofInt IntKind.u8.bits (1 * 2 ^ min (((k.val : Nat) : Int).toNat) IntKind.u8.bits - 1)).toNat == 0) = decide (((x.val : Nat) : Int) % 2 ^ (((k.val : Nat) : Int).toNat) = 0) := by decide +kernel
theorem maskU {u x : Int} (hu : 0 ≤ u ∧ u ≤ 7) (hx : 0 ≤ x ∧ x < 256) : (IntKind.u8.wrap (BitVec.ofInt IntKind.u8.bits x &&& BitVec.ofInt IntKind.u8.bits (1 * 2 ^ min u.toNat IntKind.u8.bits - 1)).toNat == 0) = decide (x % 2 ^ u.toNat = 0) := by
 obtain ⟨k, rfl⟩ : ∃ k : Nat, u = k := ⟨u.toNat, by omega⟩
 obtain ⟨y, rfl⟩ : ∃ y : Nat, x = y := ⟨x.toNat, by omega⟩
 exact mask8 ⟨k, by omega⟩ ⟨y, by omega⟩
set_option maxHeartbeats 8000000 in
theorem bright_ok (u : Int) (l : List Int) (hl : l.length ≤ 1000000) (hw : WfB l) : Ct Tryz.prog 146 [bitA u l] [] (lv (.bool (rightS u l))) [] [] := by
 have hx := wfl_at hw (l.length - 1)
 unfold rightS
 by_cases h0 : l = []
 · rw [if_pos h0]
   subst h0
   refine Ct_intro Tryz.func146 rfl rfl rfl rfl rfl (fun E hn hb => ?_)
   repeat refine nx ?_
   refine rt2 [] (congrArg (fun x => lv (.bool x)) ?_) trivial
   rfl
 · rw [if_neg h0]
   have hlp : 0 < l.length := by
     cases l with
     | nil => exact absurd rfl h0
     | cons => simp
   by_cases hu : 0 ≤ u ∧ u ≤ 7
   · have : u = 0 ∨ u = 1 ∨ u = 2 ∨ u = 3 ∨ u = 4 ∨ u = 5 ∨ u = 6 ∨ u = 7 := by omega
     rcases this with rfl | rfl | rfl | rfl | rfl | rfl | rfl | rfl
     all_goals
       refine Ct_intro Tryz.func146 rfl rfl rfl rfl rfl (fun E hn hb => ?_)
       repeat refine nx ?_
       refine rt2 [] (congrArg (fun x => lv (.bool x)) ?_) trivial
       rw [show ((l.length : Int) - 1).toNat = l.length - 1 by omega]
       exact maskU hu hx
   · refine Ct_intro Tryz.func146 rfl rfl rfl rfl rfl (fun E hn hb => ?_)
     repeat refine nx ?_
     refine rt2 [] (congrArg (fun x => lv (.bool x)) ?_) trivial
     have : ¬ 0 ≤ u ∨ ¬ u ≤ 7 := by omega
     rcases this with h | h
     · rw [decide_eq_false h]; rfl
     · rw [decide_eq_false h]; cases decide (0 ≤ u) <;> rfl
end Go.Proofs.YthoaneleeabadaaGreat

namespace Go.Proofs.YthoaneleeabadaaGreat
set_option linter.unusedSimpArgs false
set_option linter.unusedVariables false
open Go.Sx
set_option maxRecDepth 10000
def parS (l : List Int) : Int × List Int × Bool := match l with
 | [] => (0, [], false)
 | u :: m => if rightS u m = true then (u, m, true) else (0, [], false)
theorem bparse_ok (l : List Int) (hl : l.length ≤ 1000000) (hw : WfB l) : Ct Tryz.prog 159 [B8 l] [] (.tup [bitA (parS l).1 (parS l).2.1, lv (.int .i64 (cond (parS l).2.2 0 6))]) [] [] := by
 cases l with
 | nil =>
   refine Ct_intro Tryz.func159 rfl rfl rfl rfl rfl (fun E hn hb => ?_)
   repeat refine nx ?_
   refine rtU [] (hu := ?_)
   exact ⟨⟨.inl rfl, .inr ⟨rfl, .inl ⟨_, rfl⟩⟩, trivial⟩, .inl rfl, trivial⟩
 | cons u m =>
   have hr := bright_ok u m (by simp at hl; omega) (fun x hx => hw x (List.mem_cons_of_mem _ hx))
   have hcl := clone_ok m (by simp at hl; omega)
   have hu := hw u (List.mem_cons_self ..)
   unfold parS
   dsimp only
   by_cases hrs : rightS u m = true
   · rw [if_pos hrs]
     rw [hrs] at hr
     refine Ct_intro Tryz.func159 rfl rfl rfl rfl rfl (fun E hn hb => ?_)
     repeat refine nx ?_
     exact rt1 []
   · rw [if_neg hrs]
     rw [Bool.not_eq_true] at hrs
     rw [hrs] at hr
     refine Ct_intro Tryz.func159 rfl rfl rfl rfl rfl (fun E hn hb => ?_)
     repeat refine nx ?_
     refine rtU [] (hu := ?_)
     exact ⟨⟨.inl rfl, .inr ⟨rfl, .inl ⟨_, rfl⟩⟩, trivial⟩, .inl rfl, trivial⟩
def bitR (l : List Int) (p : Nat) : Int × List Int × Nat × Int :=
 let r := openP l p (ofT 3)
 if r.2.2 = 0 then (let s := parS r.1; if s.2.2 = true then (s.1, s.2.1, r.2.1, 0) else (0, [], p, 6)) else (0, [], p, r.2.2)
theorem parS_no {l : List Int} (h : ¬ (parS l).2.2 = true) : parS l = (0, [], false) := by
 unfold parS at h ⊢
 cases l with
 | nil => rfl
 | cons u m =>
   dsimp only at h ⊢
   by_cases hr : rightS u m = true
   · rw [if_pos hr] at h; exact absurd rfl h
   · rw [if_neg hr]
set_option maxHeartbeats 4000000 in
theorem bread0_ok (l : List Int) (p : Nat) (hp : p ≤ l.length) (hl : l.length ≤ 1000000) (hw : WfB l) : Ct Tryz.prog 158 [.c (.ptr 0 0), lv (.int .i64 3), .c (.fn (.func 159) [] [])] [curB l p] (.tup [bitA (bitR l p).1 (bitR l p).2.1, lv (.int .i64 (bitR l p).2.2.2)]) [curB l (bitR l p).2.2.1] [] := by
 have hat := at_ok l p
 have hho := headof_ok 3
 have hop := open_ok l p (ofT 3) hp hl hw
 have hoe := open_err l p (ofT 3) hp hl hw
 have hle := openP_le l p (ofT 3) hp
 have hmem := openP_mem l p (ofT 3)
 unfold bitR
 generalize openP l p (ofT 3) = X at *
 obtain ⟨x, q, e⟩ := X
 dsimp only at *
 by_cases he : e = 0
 · subst he
   have hop := hop rfl
   rw [if_pos rfl]
   have hre := rest_ok x 0 (Nat.zero_le _) (by omega)
   rw [List.drop_zero] at hre
   have hpa := bparse_ok x (by omega) (fun y hy => hw y (hmem.2 y hy))
   have hbk := back_ok l q p hle.1 (by omega)
   by_cases hs : (parS x).2.2 = true
   · rw [if_pos hs]
     rw [hs] at hpa
     dsimp only
     generalize parS x = Y at *
     obtain ⟨u, m, b⟩ := Y
     dsimp only at *
     change Ct Tryz.prog 159 [B8 x] [] (.tup [bitA u m, lv (.int .i64 0)]) [] [] at hpa
     refine Ct_intro Tryz.func158 rfl rfl rfl rfl rfl (fun E hn hb => ?_)
     repeat refine nx ?_
     exact rt1 []
   · rw [if_neg hs]
     rw [parS_no hs] at hpa
     change Ct Tryz.prog 159 [B8 x] [] (.tup [bitA 0 [], lv (.int .i64 6)]) [] [] at hpa
     refine Ct_intro Tryz.func158 rfl rfl rfl rfl rfl (fun E hn hb => ?_)
     repeat refine nx ?_
     refine rtU [] (hu := ?_)
     exact ⟨⟨.inl rfl, .inr ⟨rfl, .inl ⟨_, rfl⟩⟩, trivial⟩, .inl rfl, trivial⟩
 · have hoe := hoe he
   rw [if_neg he]
   refine Ct_intro Tryz.func158 rfl rfl rfl rfl rfl (fun E hn hb => ?_)
   repeat refine nx ?_
   refine rtU [] (hu := ?_)
   exact ⟨⟨.inl rfl, .inr ⟨rfl, .inl ⟨_, rfl⟩⟩, trivial⟩, .inl rfl, trivial⟩
theorem bread_ok (l : List Int) (p : Nat) (hp : p ≤ l.length) (hl : l.length ≤ 1000000) (hw : WfB l) : Ct Tryz.prog 124 [.c (.ptr 0 0)] [curB l p] (.tup [bitA (bitR l p).1 (bitR l p).2.1, lv (.int .i64 (bitR l p).2.2.2)]) [curB l (bitR l p).2.2.1] [] := by
 have h := bread0_ok l p hp hl hw
 refine Ct_intro Tryz.func124 rfl rfl rfl rfl rfl (fun E hn hb => ?_)
 repeat refine nx ?_
 exact rt1 []

abbrev btk (x : Int) (j : Nat) : List Int := [x / 128 % 2, x / 64 % 2, x / 32 % 2, x / 16 % 2, x / 8 % 2, x / 4 % 2, x / 2 % 2, x / 1 % 2].take j
abbrev kvB (j : Nat) : Int := [128, 64, 32, 16, 8, 4, 2, 1, 0].getD j 0
set_option maxHeartbeats 8000000 in
theorem all5_ok (x : Int) (hx : 0 ≤ x ∧ x < 256) : Ct Tryz.prog 177 [B8 [x]] [] (I64 (btk x 8)) [] [] := by
 refine Ct_intro Tryz.func177 rfl rfl rfl rfl rfl (fun E hn hb => ?_)
 repeat refine nx ?_
 refine W_own_nil 3 900 1 (.ints .i64 []) rfl rfl (.inr (.inl ⟨_, rfl⟩)) ?_
 refine W_weaken (St.le_of (l := [(0, B8 [x]), (3, .c (.own 900 1 0 ([] : List Int).length)), (4, lv (.int .i64 0))]) (h := [(900, .row (.ints .i64 []))]) (by refine ⟨?_, ?_⟩ <;> (repeat' (first | exact trivial | exact rfl | refine ⟨?_, ?_⟩)) <;> first | exact rfl | (simp; done) | skip)) ?_
 refine W_loop (ι := Bool) (fun b => match b with
   | false => St.of [(0, B8 [x]), (3, .c (.own 900 1 0 ([] : List Int).length)), (4, lv (.int .i64 0))] [(900, .row (.ints .i64 []))]
   | true => St.of [(0, B8 [x]), (3, .c (.own 900 1 0 (btk x 8).length)), (4, lv (.int .i64 1))] [(900, .row (.ints .i64 (btk x 8)))]) (fun b => match b with | false => 1 | true => 0) (fun b => ?_) false
 cases b with
 | true =>
   dsimp only
   repeat refine nx ?_
   refine frzN 2 ?_
   exact rt1 []
 | false =>
   dsimp only
   repeat refine nx ?_
   refine W_weaken (St.le_of (l := [(0, B8 [x]), (3, .c (.own 900 1 0 (btk x 0).length)), (4, lv (.int .i64 0)), (5, lv (.int .i64 x)), (6, lv (.int .i64 (kvB 0)))]) (h := [(900, .row (.ints .i64 (btk x 0)))]) (by refine ⟨?_, ?_⟩ <;> (repeat' (first | exact trivial | exact rfl | refine ⟨?_, ?_⟩)) <;> first | exact rfl | (simp; done) | skip)) ?_
   refine W_loop (ι := {j : Nat // j ≤ 8}) (fun j => St.of [(0, B8 [x]), (3, .c (.own 900 1 0 (btk x j.1).length)), (4, lv (.int .i64 0)), (5, lv (.int .i64 x)), (6, lv (.int .i64 (kvB j.1)))] [(900, .row (.ints .i64 (btk x j.1)))]) (fun j => 8 - j.1) (fun j => ?_) ⟨0, Nat.zero_le _⟩
   obtain ⟨j, hj⟩ := j
   dsimp only
   by_cases h8 : j = 8
   · subst h8
     repeat refine nx ?_
     refine N_round true (by decide) (St.le_of ⟨⟨rfl, rfl, rfl⟩, rfl⟩)
   · have : j = 0 ∨ j = 1 ∨ j = 2 ∨ j = 3 ∨ j = 4 ∨ j = 5 ∨ j = 6 ∨ j = 7 := by omega
     rcases this with rfl | rfl | rfl | rfl | rfl | rfl | rfl | rfl
     · repeat refine nx ?_
       refine N_round ⟨1, by omega⟩ (by dsimp only; omega) (St.le_of ⟨⟨rfl, rfl, rfl, rfl, rfl⟩, rfl⟩)
     · repeat refine nx ?_
       refine N_round ⟨2, by omega⟩ (by dsimp only; omega) (St.le_of ⟨⟨rfl, rfl, rfl, rfl, rfl⟩, rfl⟩)
     · repeat refine nx ?_
       refine N_round ⟨3, by omega⟩ (by dsimp only; omega) (St.le_of ⟨⟨rfl, rfl, rfl, rfl, rfl⟩, rfl⟩)
     · repeat refine nx ?_
       refine N_round ⟨4, by omega⟩ (by dsimp only; omega) (St.le_of ⟨⟨rfl, rfl, rfl, rfl, rfl⟩, rfl⟩)
     · repeat refine nx ?_
       refine N_round ⟨5, by omega⟩ (by dsimp only; omega) (St.le_of ⟨⟨rfl, rfl, rfl, rfl, rfl⟩, rfl⟩)
     · repeat refine nx ?_
       refine N_round ⟨6, by omega⟩ (by dsimp only; omega) (St.le_of ⟨⟨rfl, rfl, rfl, rfl, rfl⟩, rfl⟩)
     · repeat refine nx ?_
       refine N_round ⟨7, by omega⟩ (by dsimp only; omega) (St.le_of ⟨⟨rfl, rfl, rfl, rfl, rfl⟩, rfl⟩)
     · repeat refine nx ?_
       refine N_round ⟨8, by omega⟩ (by dsimp only; omega) (St.le_of ⟨⟨rfl, rfl, rfl, rfl, rfl⟩, rfl⟩)
theorem low_bits : ∀ u : Fin 8, ∀ x : Fin 256, decide (((x.val : Nat) : Int) % 2 ^ u.val = 0) = ((btk ((x.val : Nat) : Int) 8).drop (8 - u.val)).all (fun b => decide (b = 0)) := by decide +kernel
theorem lowB {u x : Int} (hu : 0 ≤ u ∧ u ≤ 7) (hx : 0 ≤ x ∧ x < 256) : decide (x % 2 ^ u.toNat = 0) = ((btk x 8).drop (8 - u.toNat)).all (fun b => decide (b = 0)) := by
 obtain ⟨k, rfl⟩ : ∃ k : Nat, u = k := ⟨u.toNat, by omega⟩
 obtain ⟨y, rfl⟩ : ∃ y : Nat, x = y := ⟨x.toNat, by omega⟩
 exact low_bits ⟨k, by omega⟩ ⟨y, by omega⟩
theorem drop_last {l : List Int} (h : l ≠ []) : l.drop (l.length - 1) = [l.getD (l.length - 1) 0] := by
 have : 0 < l.length := by
   cases l with
   | nil => exact absurd rfl h
   | cons => simp
 rw [List.drop_eq_getElem_cons (by omega), List.drop_eq_nil_of_le (by omega), List.getD_eq_getElem?_getD, List.getElem?_eq_getElem (by omega)]
 rfl
set_option maxHeartbeats 8000000 in
theorem rbright_ok (u : Int) (l : List Int) (hl : l.length ≤ 1000000) (hw : WfB l) : Ct Tryz.prog 161 [bitA u l] [] (lv (.bool (rightS u l))) [] [] := by
 have hx := wfl_at hw (l.length - 1)
 unfold rightS
 by_cases h0 : l = []
 · rw [if_pos h0]
   subst h0
   refine Ct_intro Tryz.func161 rfl rfl rfl rfl rfl (fun E hn hb => ?_)
   repeat refine nx ?_
   refine rt2 [] (congrArg (fun x => lv (.bool x)) ?_) trivial
   rfl
 · rw [if_neg h0]
   have hlp : 0 < l.length := by
     cases l with
     | nil => exact absurd rfl h0
     | cons => simp
   by_cases hu : 0 ≤ u ∧ u ≤ 7
   · have hdl := drop_last h0
     rw [lowB hu hx, decide_eq_true hu.1, decide_eq_true hu.2]
     have hal := all5_ok (l.getD (l.length - 1) 0) hx
     rw [← hdl] at hal
     generalize hL : btk (l.getD (l.length - 1) 0) 8 = L at *
     have hLl : L.length = 8 := by rw [← hL]; rfl
     have he : (((l.length : Int) - 1).toNat) = l.length - 1 := by omega
     rw [← he] at hal
     have hLz : ∀ k, k < 8 → (L.drop k).all (fun b => decide (b = 0)) = (decide (L.getD k 0 = 0) && (L.drop (k + 1)).all (fun b => decide (b = 0))) := by
       intro k hk
       rw [List.drop_eq_getElem_cons (by omega), List.getD_eq_getElem?_getD, List.getElem?_eq_getElem (by omega)]
       rfl
     obtain ⟨k0, hk0⟩ : ∃ k0 : Nat, 8 - u = k0 := ⟨(8 - u).toNat, by omega⟩
     rw [show 8 - u.toNat = k0 by omega]
     obtain ⟨R, hR⟩ : ∃ R, (L.drop k0).all (fun b => decide (b = 0)) = R := ⟨_, rfl⟩
     rw [hR]
     clear hL hdl hx
     refine Ct_intro Tryz.func161 rfl rfl rfl rfl rfl (fun E hn hb => ?_)
     repeat refine nx ?_
     rw [hk0]
     refine W_weaken (St.le_of (l := [(3, I64 L), (4, lv (.int .i64 (k0 : Int)))]) (h := []) (by refine ⟨?_, ?_⟩ <;> (repeat' (first | exact trivial | exact rfl | refine ⟨?_, ?_⟩)) <;> first | exact rfl | (simp; done) | skip)) ?_
     refine W_loop (ι := {k : Nat // k ≤ 8 ∧ (L.drop k).all (fun b => decide (b = 0)) = R}) (fun k => St.of [(3, I64 L), (4, lv (.int .i64 (k.1 : Int)))] []) (fun k => 8 - k.1) (fun k => ?_) ⟨k0, by omega, hR⟩
     obtain ⟨k, hk, hkR⟩ := k
     dsimp only
     by_cases hk8 : k < 8
     · rw [hLz k hk8] at hkR
       obtain ⟨z, hz1⟩ : ∃ z, L.getD k 0 = z := ⟨_, rfl⟩
       have hz2 : L.getD (k : Int).toNat 0 = z := by rw [Int.toNat_natCast]; exact hz1
       rw [hz1] at hkR
       by_cases hz : z = 0
       · subst hz
         repeat (first | refine nx ?_ | rw [hz2])
         refine N_round ⟨k + 1, by omega, by simpa using hkR⟩ (by dsimp only; omega) (St.le_of ⟨⟨rfl, rfl⟩, trivial⟩)
       · have hRf : R = false := by rw [← hkR]; simp [hz]
         subst hRf
         repeat (first | refine nx ?_ | rw [hz2])
         exact rt1 []
     · obtain rfl : k = 8 := by omega
       have hRt : R = true := by rw [← hkR, List.drop_eq_nil_of_le (by omega)]; rfl
       subst hRt
       repeat refine nx ?_
       exact rt1 []
   · have : ¬ 0 ≤ u ∨ ¬ u ≤ 7 := by omega
     have hf : (decide (0 ≤ u) && decide (u ≤ 7) && decide (l.getD (l.length - 1) 0 % 2 ^ u.toNat = 0)) = false := by
       rcases this with h | h
       · rw [decide_eq_false h]; rfl
       · rw [decide_eq_false h]; cases decide (0 ≤ u) <;> rfl
     rw [hf]
     refine Ct_intro Tryz.func161 rfl rfl rfl rfl rfl (fun E hn hb => ?_)
     repeat refine nx ?_
     exact rt1 []
end Go.Proofs.YthoaneleeabadaaGreat

namespace Go.Proofs.YthoaneleeabadaaGreat
set_option linter.unusedSimpArgs false
set_option linter.unusedVariables false
open Go.Sx
set_option maxRecDepth 10000
theorem rbparse_ok (l : List Int) (hl : l.length ≤ 1000000) (hw : WfB l) : Ct Tryz.prog 133 [B8 l] [] (.tup [bitA (parS l).1 (parS l).2.1, lv (.bool (parS l).2.2)]) [] [] := by
 cases l with
 | nil =>
   refine Ct_intro Tryz.func133 rfl rfl rfl rfl rfl (fun E hn hb => ?_)
   repeat refine nx ?_
   refine rtU [] (hu := ?_)
   exact ⟨⟨.inl rfl, .inr ⟨rfl, .inl ⟨_, rfl⟩⟩, trivial⟩, .inl rfl, trivial⟩
 | cons u m =>
   have hr := rbright_ok u m (by simp at hl; omega) (fun x hx => hw x (List.mem_cons_of_mem _ hx))
   have hu := hw u (List.mem_cons_self ..)
   have hm : m.length ≤ 1000000 := by simp at hl; omega
   unfold parS
   dsimp only
   by_cases hrs : rightS u m = true
   · rw [if_pos hrs]
     rw [hrs] at hr
     refine Ct_intro Tryz.func133 rfl rfl rfl rfl rfl (fun E hn hb => ?_)
     repeat refine nx ?_
     exact rt1 []
   · rw [if_neg hrs]
     rw [Bool.not_eq_true] at hrs
     rw [hrs] at hr
     refine Ct_intro Tryz.func133 rfl rfl rfl rfl rfl (fun E hn hb => ?_)
     repeat refine nx ?_
     refine rtU [] (hu := ?_)
     exact ⟨⟨.inl rfl, .inr ⟨rfl, .inl ⟨_, rfl⟩⟩, trivial⟩, .inl rfl, trivial⟩
def rbitR (l : List Int) (p : Nat) : List Int × Nat × Int :=
 let r := openP l p (ofT 3)
 if r.2.2 = 0 then (if (parS r.1).2.2 = true then (r.1, r.2.1, 0) else ([], p, 6)) else ([], p, r.2.2)
theorem rbread_ok (l : List Int) (p : Nat) (hp : p ≤ l.length) (hl : l.length ≤ 1000000) (hw : WfB l) : Ct Tryz.prog 97 [B8 l, lv (.int .i64 (p : Int)), lv (.int .i64 0)] [] (.tup [B8 (rbitR l p).1, lv (.int .i64 ((rbitR l p).2.1 : Int)), lv (.int .i64 (rbitR l p).2.2)]) [] [] := by
 have hof := refoft_ok 3
 have hop := refopen_ok l p (ofT 3) hp hl hw
 have hmem := openP_mem l p (ofT 3)
 unfold rbitR
 generalize openP l p (ofT 3) = X at *
 obtain ⟨x, q, e⟩ := X
 dsimp only at *
 have hpa := rbparse_ok x (by omega) (fun y hy => hw y (hmem.2 y hy))
 by_cases he : e = 0
 · subst he
   rw [if_pos rfl]
   by_cases hs : (parS x).2.2 = true
   · rw [if_pos hs]
     rw [hs] at hpa
     generalize parS x = Y at *
     refine Ct_intro Tryz.func97 rfl rfl rfl rfl rfl (fun E hn hb => ?_)
     repeat refine nx ?_
     exact rt1 []
   · rw [if_neg hs]
     rw [Bool.not_eq_true] at hs
     rw [hs] at hpa
     generalize parS x = Y at *
     refine Ct_intro Tryz.func97 rfl rfl rfl rfl rfl (fun E hn hb => ?_)
     repeat refine nx ?_
     exact rtU []
 · rw [if_neg he]
   refine Ct_intro Tryz.func97 rfl rfl rfl rfl rfl (fun E hn hb => ?_)
   repeat refine nx ?_
   exact rtU []
end Go.Proofs.YthoaneleeabadaaGreat

/-
  Public keys that are read: the program's and the document's. The conditions: rows of bytes that a machine can hold.
-/
import Derived.Test.YthoaneleeabadaaGreatM3
import Derived.Test.YthoaneleeabadaaGreatC12
import Derived.Test.YthoaneleeabadaaGreatSxQ
import Derived.Test.YthoaneleeabadaaGreatA11
import Derived.Test.YthoaneleeabadaaGreatO3
namespace Go.Proofs.YthoaneleeabadaaGreat
set_option linter.unusedSimpArgs false
set_option linter.unusedVariables false
open Go.Sx
set_option maxRecDepth 10000
def Z8 : V8 := ⟨0, 0, 0, 0, 0, 0, 0, 0⟩
theorem new_ok : Ct Tryz.prog 115 [] [] (.c (.ptr 0 0)) [] [.cells (hC Z8 false (.lf (.v (.slice none 0 0))) 0)] := by
 refine Ct_intro Tryz.func115 rfl rfl rfl rfl rfl (fun E hn hb => ?_)
 repeat (refine nst ?_)
 refine s_boxN rfl rfl rfl (by rw [hn]; rfl) rfl (by exact vcs) rfl rfl ?_
 repeat (refine nst ?_)
 exact rt1 [66]
theorem begin_ok (v : V8) (bg : Bool) (o m : Nat) (n : Int) (l : List Int) : Ct Tryz.prog 149 [.c (.ptr 0 0)] [.cells (hC v bg (.own 1 1 o m) n), .row (.ints .u8 l)] (.tup []) [.cells (hC (cond bg v H0) true (.own 1 1 o m) n), .row (.ints .u8 l)] [] := by
 refine Ct_intro Tryz.func149 rfl rfl rfl rfl rfl (fun E hn hb => ?_)
 repeat (refine nst ?_)
 refine W_cond rfl (by simp) (fun hc => ?_) (fun hc => ?_)
 · have : bg = false := by simpa using hc
   subst this
   repeat (refine nst ?_)
   refine s_call0 (first_ok) rfl rfl rfl (by rw [hn]; rfl) rfl rfl (by exact vcs) rfl rfl rfl ?_
   repeat (refine nst ?_)
   refine s_storeN rfl rfl rfl rfl rfl (by exact vcs) rfl rfl rfl (by rw [cellsOf222]; rfl) (by rw [info222]; rfl) rfl rfl ?_
   repeat (refine nst ?_)
   refine s_storeN rfl rfl rfl rfl rfl (by exact vcs) rfl rfl rfl (by rw [cellsOf4]; rfl) (by rw [info4]; rfl) rfl rfl ?_
   repeat (refine nst ?_)
   exact rt1 []
 · have : bg = true := by simpa using hc
   subst this
   repeat (refine nst ?_)
   exact rt1 []
theorem cloneO_ok (l : List Int) (off len : Nat) (hl : off + len ≤ l.length) (hlen : len ≤ 1000000) : Ct Tryz.prog 89 [.c (.own 0 1 off len)] [.row (.ints .u8 l)] (.c (.own 1 1 0 len)) [.row (.ints .u8 l)] [.row (.ints .u8 ((l.drop off).take len))] := by
 refine Ct_intro Tryz.func89 rfl rfl rfl rfl rfl (fun E hn hb => ?_)
 repeat (refine nst ?_)
 refine s_nilS (neg := false) rfl rfl (by rw [hn]; rfl) Tryz.underlying23 (srcP_own rfl) ⟨rfl, hl⟩ (by simp [szD]) (fun b hb0 => ?_)
 have hll : ((l.drop off).take len).length = len := by simp; omega
 repeat (refine nst ?_)
 refine W_cond rfl (by simp) (fun hc => ?_) (fun hc => ?_)
 · have hb1 : b = true := by simpa using hc
   subst hb1
   have h0 : len = 0 := by
     have := hb0 rfl
     simp only [lenD] at this
     omega
   subst h0
   repeat (refine nst ?_)
   refine N_own_nil 2 100 1 (.ints .u8 []) rfl rfl (.inl rfl) ?_
   exact rt1 [100]
 · repeat (refine nst ?_)
   refine s_litI rfl rfl rfl (by rw [hn]; rfl) (elt_mk Tryz.underlying23 rfl rfl) (zok5) (by exact vcs) ⟨by decide, rfl⟩ ?_
   repeat (refine nst ?_)
   refine s_appI rfl rfl rfl rfl rfl rfl (by rw [hn]; rfl) (elt_mk Tryz.underlying23 rfl rfl) rfl rfl rfl (srcP_own rfl) ⟨rfl, hl⟩ (by first | rfl | (simp; done) | (simp; omega)) ⟨by rw [hll]; simp; omega, by decide⟩ ?_
   repeat (refine nst ?_)
   refine rt2 [69] ?_ ?_
   · exact congrArg (fun n => Av.c (.own 69 1 0 n)) (by simp; omega)
   · rfl
theorem hcopy_ok (v : V8) (bg : Bool) (m : Nat) (n : Int) (l : List Int) (hm : m = l.length) (hl : m ≤ 1000000) : Ct Tryz.prog 151 [.c (.ptr 0 0)] [.cells (hC v bg (.own 1 1 0 m) n), .row (.ints .u8 l)] (.c (.ptr 2 0)) [.cells (hC v bg (.own 1 1 0 m) n), .row (.ints .u8 l)] [.cells (hC v bg (.own 3 1 0 m) n), .row (.ints .u8 l)] := by
 have hcl := cloneO_ok l 0 m (by omega) hl
 have e : (l.drop 0).take m = l := by rw [List.drop_zero, List.take_of_length_le (by omega)]
 rw [e] at hcl
 refine Ct_intro Tryz.func151 rfl rfl rfl rfl rfl (fun E hn hb => ?_)
 repeat (refine nst ?_)
 refine WL_q (opq_of (opy_nilP (neg := false) rfl rfl rfl rfl (by exact vcs)) rfl) (by rw [hn]; rfl) ?_
 repeat (refine nst ?_)
 refine W_cond rfl (by simp) (fun hc => ?_) (fun hc => ?_)
 · simp at hc
 · repeat (refine nst ?_)
   refine s_allocN rfl rfl rfl (by rw [hn]; rfl) rfl zok224 ?_
   repeat (refine nst ?_)
   refine s_storeN rfl rfl rfl rfl rfl (by exact vcs) rfl rfl rfl (by rw [cellsOf224]; rfl) (by rw [info224]; rfl) rfl rfl ?_
   repeat (refine nst ?_)
   refine s_call [1] hcl rfl rfl (by rw [hn]; rfl) rfl rfl (by trivial) ⟨rfl, rfl, by simp [ordL], rfl⟩ ?_
   repeat (refine nst ?_)
   refine s_storeN rfl rfl rfl rfl rfl (by exact vcs) rfl rfl rfl (by rw [cellsOf23]; rfl) (by rw [info23]; rfl) rfl rfl ?_
   repeat (refine nst ?_)
   exact rt1 [67, 78]

theorem wfl_at {l : List Int} (h : WfB l) (p : Nat) : 0 ≤ l.getD p 0 ∧ l.getD p 0 < 256 := by
 rw [List.getD_eq_getElem?_getD]
 cases hx : l[p]? with
 | none => exact ⟨by simp, by simp⟩
 | some x => exact h x (List.mem_of_getElem? hx)
abbrev bitA (u : Int) (l : List Int) : Av := .agg [.lf (.v (.int .i64 u)), .lf (.ints .u8 l)]
def rightS (u : Int) (l : List Int) : Bool := if l = [] then decide (u = 0) else decide (0 ≤ u) && decide (u ≤ 7) && decide (l.getD (l.length - 1) 0 % 2 ^ u.toNat = 0)
theorem mask8 : ∀ k : Fin 8, ∀ x : Fin 256, (IntKind.u8.wrap (BitVec.ofInt IntKind.u8.bits ((x.val : Nat) : Int) &&& BitVec.ofInt IntKind.u8.bits (1 * 2 ^ min (((k.val : Nat) : Int).toNat) IntKind.u8.bits - 1)).toNat == 0) = decide (((x.val : Nat) : Int) % 2 ^ (((k.val : Nat) : Int).toNat) = 0) := by decide +kernel
theorem maskU {u x : Int} (hu : 0 ≤ u ∧ u ≤ 7) (hx : 0 ≤ x ∧ x < 256) : (IntKind.u8.wrap (BitVec.ofInt IntKind.u8.bits x &&& BitVec.ofInt IntKind.u8.bits (1 * 2 ^ min u.toNat IntKind.u8.bits - 1)).toNat == 0) = decide (x % 2 ^ u.toNat = 0) := by
 obtain ⟨k, rfl⟩ : ∃ k : Nat, u = k := ⟨u.toNat, by omega⟩
 obtain ⟨y, rfl⟩ : ∃ y : Nat, x = y := ⟨x.toNat, by omega⟩
 exact mask8 ⟨k, by omega⟩ ⟨y, by omega⟩
set_option maxHeartbeats 8000000 in
theorem bright_ok (u : Int) (l : List Int) (hl : l.length ≤ 1000000) (hw : WfB l) : Ct Tryz.prog 146 [bitA u l] [] (lv (.bool (rightS u l))) [] [] := by
 have hx := wfl_at hw (l.length - 1)
 unfold rightS
 by_cases h0 : l = []
 · rw [if_pos h0]
   subst h0
   refine Ct_intro Tryz.func146 rfl rfl rfl rfl rfl (fun E hn hb => ?_)
   repeat refine nx ?_
   refine rt2 [] (congrArg (fun x => lv (.bool x)) ?_) trivial
   rfl
 · rw [if_neg h0]
   have hlp : 0 < l.length := by
     cases l with
     | nil => exact absurd rfl h0
     | cons => simp
   by_cases hu : 0 ≤ u ∧ u ≤ 7
   · have : u = 0 ∨ u = 1 ∨ u = 2 ∨ u = 3 ∨ u = 4 ∨ u = 5 ∨ u = 6 ∨ u = 7 := by omega
     rcases this with rfl | rfl | rfl | rfl | rfl | rfl | rfl | rfl
     all_goals
       refine Ct_intro Tryz.func146 rfl rfl rfl rfl rfl (fun E hn hb => ?_)
       repeat refine nx ?_
       refine rt2 [] (congrArg (fun x => lv (.bool x)) ?_) trivial
       rw [show ((l.length : Int) - 1).toNat = l.length - 1 by omega]
       exact maskU hu hx
   · refine Ct_intro Tryz.func146 rfl rfl rfl rfl rfl (fun E hn hb => ?_)
     repeat refine nx ?_
     refine rt2 [] (congrArg (fun x => lv (.bool x)) ?_) trivial
     have : ¬ 0 ≤ u ∨ ¬ u ≤ 7 := by omega
     rcases this with h | h
     · rw [decide_eq_false h]; rfl
     · rw [decide_eq_false h]; cases decide (0 ≤ u) <;> rfl

def parS (l : List Int) : Int × List Int × Bool := match l with
 | [] => (0, [], false)
 | u :: m => if rightS u m = true then (u, m, true) else (0, [], false)
theorem bparse_ok (l : List Int) (hl : l.length ≤ 1000000) (hw : WfB l) : Ct Tryz.prog 159 [B8 l] [] (.tup [bitA (parS l).1 (parS l).2.1, lv (.int .i64 (cond (parS l).2.2 0 6))]) [] [] := by
 cases l with
 | nil =>
   refine Ct_intro Tryz.func159 rfl rfl rfl rfl rfl (fun E hn hb => ?_)
   repeat refine nx ?_
   refine rtU [] (hu := ?_)
   exact ⟨⟨.inl rfl, .inr ⟨rfl, .inl ⟨_, rfl⟩⟩, trivial⟩, .inl rfl, trivial⟩
 | cons u m =>
   have hr := bright_ok u m (by simp at hl; omega) (fun x hx => hw x (List.mem_cons_of_mem _ hx))
   have hcl := clone_ok m (by simp at hl; omega)
   have hu := hw u (List.mem_cons_self ..)
   unfold parS
   dsimp only
   by_cases hrs : rightS u m = true
   · rw [if_pos hrs]
     rw [hrs] at hr
     refine Ct_intro Tryz.func159 rfl rfl rfl rfl rfl (fun E hn hb => ?_)
     repeat refine nx ?_
     exact rt1 []
   · rw [if_neg hrs]
     rw [Bool.not_eq_true] at hrs
     rw [hrs] at hr
     refine Ct_intro Tryz.func159 rfl rfl rfl rfl rfl (fun E hn hb => ?_)
     repeat refine nx ?_
     refine rtU [] (hu := ?_)
     exact ⟨⟨.inl rfl, .inr ⟨rfl, .inl ⟨_, rfl⟩⟩, trivial⟩, .inl rfl, trivial⟩
def bitR (l : List Int) (p : Nat) : Int × List Int × Nat × Int :=
 let r := openP l p (ofT 3)
 if r.2.2 = 0 then (let s := parS r.1; if s.2.2 = true then (s.1, s.2.1, r.2.1, 0) else (0, [], p, 6)) else (0, [], p, r.2.2)
theorem parS_no {l : List Int} (h : ¬ (parS l).2.2 = true) : parS l = (0, [], false) := by
 unfold parS at h ⊢
 cases l with
 | nil => rfl
 | cons u m =>
   dsimp only at h ⊢
   by_cases hr : rightS u m = true
   · rw [if_pos hr] at h; exact absurd rfl h
   · rw [if_neg hr]
set_option maxHeartbeats 4000000 in
theorem bread0_ok (l : List Int) (p : Nat) (hp : p ≤ l.length) (hl : l.length ≤ 1000000) (hw : WfB l) : Ct Tryz.prog 158 [.c (.ptr 0 0), lv (.int .i64 3), .c (.fn (.func 159) [] [])] [curB l p] (.tup [bitA (bitR l p).1 (bitR l p).2.1, lv (.int .i64 (bitR l p).2.2.2)]) [curB l (bitR l p).2.2.1] [] := by
 have hat := at_ok l p
 have hho := headof_ok 3
 have hop := open_ok l p (ofT 3) hp hl hw
 have hoe := open_err l p (ofT 3) hp hl hw
 have hle := openP_le l p (ofT 3) hp
 have hmem := openP_mem l p (ofT 3)
 unfold bitR
 generalize openP l p (ofT 3) = X at *
 obtain ⟨x, q, e⟩ := X
 dsimp only at *
 by_cases he : e = 0
 · subst he
   have hop := hop rfl
   rw [if_pos rfl]
   have hre := rest_ok x 0 (Nat.zero_le _) (by omega)
   rw [List.drop_zero] at hre
   have hpa := bparse_ok x (by omega) (fun y hy => hw y (hmem.2 y hy))
   have hbk := back_ok l q p hle.1 (by omega)
   by_cases hs : (parS x).2.2 = true
   · rw [if_pos hs]
     rw [hs] at hpa
     dsimp only
     generalize parS x = Y at *
     obtain ⟨u, m, b⟩ := Y
     dsimp only at *
     change Ct Tryz.prog 159 [B8 x] [] (.tup [bitA u m, lv (.int .i64 0)]) [] [] at hpa
     refine Ct_intro Tryz.func158 rfl rfl rfl rfl rfl (fun E hn hb => ?_)
     repeat refine nx ?_
     exact rt1 []
   · rw [if_neg hs]
     rw [parS_no hs] at hpa
     change Ct Tryz.prog 159 [B8 x] [] (.tup [bitA 0 [], lv (.int .i64 6)]) [] [] at hpa
     refine Ct_intro Tryz.func158 rfl rfl rfl rfl rfl (fun E hn hb => ?_)
     repeat refine nx ?_
     refine rtU [] (hu := ?_)
     exact ⟨⟨.inl rfl, .inr ⟨rfl, .inl ⟨_, rfl⟩⟩, trivial⟩, .inl rfl, trivial⟩
 · have hoe := hoe he
   rw [if_neg he]
   refine Ct_intro Tryz.func158 rfl rfl rfl rfl rfl (fun E hn hb => ?_)
   repeat refine nx ?_
   refine rtU [] (hu := ?_)
   exact ⟨⟨.inl rfl, .inr ⟨rfl, .inl ⟨_, rfl⟩⟩, trivial⟩, .inl rfl, trivial⟩
theorem bread_ok (l : List Int) (p : Nat) (hp : p ≤ l.length) (hl : l.length ≤ 1000000) (hw : WfB l) : Ct Tryz.prog 124 [.c (.ptr 0 0)] [curB l p] (.tup [bitA (bitR l p).1 (bitR l p).2.1, lv (.int .i64 (bitR l p).2.2.2)]) [curB l (bitR l p).2.2.1] [] := by
 have h := bread0_ok l p hp hl hw
 refine Ct_intro Tryz.func124 rfl rfl rfl rfl rfl (fun E hn hb => ?_)
 repeat refine nx ?_
 exact rt1 []

def rightG (o m : List Int) : Bool := rightO o && (decide ((wholesP m 0).2 = 0) && decide ((wholesP m 0).1.length < 2))
set_option maxHeartbeats 4000000 in
theorem rightalg_ok (o m : List Int) (ho : o.length ≤ 1000000) (hm : m.length ≤ 100000) (hw : WfB m) : Ct Tryz.prog 14 [algA o m] [] (lv (.bool (rightG o m))) [] [] := by
 have hr := oright_ok o ho
 have hcn := curnew_ok m (by omega)
 have hwh := wholes_ok m 0 (Nat.zero_le _) hm hw
 unfold rightG
 generalize wholesP m 0 = W at *
 obtain ⟨rs, e⟩ := W
 dsimp only at *
 cases hrr : rightO o with
 | false =>
   rw [hrr] at hr
   refine Ct_intro Tryz.func14 rfl rfl rfl rfl rfl (fun E hn hb => ?_)
   repeat refine nx ?_
   exact rt1 []
 | true =>
   rw [hrr] at hr
   rw [Bool.true_and]
   by_cases he : e = 0
   · subst he
     rw [if_pos rfl] at hwh
     refine Ct_intro Tryz.func14 rfl rfl rfl rfl rfl (fun E hn hb => ?_)
     repeat refine nx ?_
     refine rt2 [] (congrArg (fun x => lv (.bool x)) ?_) trivial
     simp; omega
   · rw [if_neg he] at hwh
     rw [decide_eq_false he]
     refine Ct_intro Tryz.func14 rfl rfl rfl rfl rfl (fun E hn hb => ?_)
     repeat refine nx ?_
     refine rt2 [] (congrArg (fun x => lv (.bool x)) ?_) trivial
     simp [he]

theorem algR_le (l : List Int) (p : Nat) (hp : p ≤ l.length) : p ≤ (algR l p).2.2.2 ∧ (algR l p).2.2.2 ≤ l.length := by
 have h := openP_le l p (ofT 16) hp
 unfold algR
 dsimp only
 split
 · split
   · exact h
   · exact ⟨Nat.le_refl _, hp⟩
 · exact ⟨Nat.le_refl _, hp⟩
theorem bitR_le (l : List Int) (p : Nat) (hp : p ≤ l.length) : p ≤ (bitR l p).2.2.1 ∧ (bitR l p).2.2.1 ≤ l.length := by
 have h := openP_le l p (ofT 3) hp
 unfold bitR
 dsimp only
 split
 · split
   · exact h
   · exact ⟨Nat.le_refl _, hp⟩
 · exact ⟨Nat.le_refl _, hp⟩
theorem bitR_len (l : List Int) (p : Nat) : (bitR l p).2.1.length ≤ l.length := by
 have hm := openP_mem l p (ofT 3)
 have hp : (parS (openP l p (ofT 3)).1).2.1.length ≤ (openP l p (ofT 3)).1.length := by
   unfold parS
   cases (openP l p (ofT 3)).1 with
   | nil => simp
   | cons u m => dsimp only; split <;> simp
 unfold bitR
 dsimp only
 split
 · split
   · exact Nat.le_trans hp hm.1
   · simp
 · simp
end Go.Proofs.YthoaneleeabadaaGreat

/-
  Chapter 02: tags that are read. The conditions: rows of at most a million bytes.
-/
import Derived.Test.YtohfhephkjihfaaGreatW16
namespace Go.Proofs.YtohfhephkjihfaaGreat
set_option linter.unusedSimpArgs false
set_option linter.unusedVariables false
open Go.Sx
set_option maxRecDepth 10000
def numP (b : List Int) : Nat → Nat → Int → Int × Nat × Int
 | 0, p, _ => if p < b.length then (0, p + 1, 4) else (0, p, 3)
 | k + 1, p, n =>
   if p < b.length then
     if k = 2 ∧ b.getD p 0 = 128 then (0, p + 1, 4)
     else if b.getD p 0 < 128 then
       if 128 * n + b.getD p 0 % 128 < 31 then (0, p + 1, 4) else (128 * n + b.getD p 0 % 128, p + 1, 0)
     else numP b k (p + 1) (128 * n + b.getD p 0 % 128)
   else (0, p, 3)
theorem numP_le (b : List Int) : ∀ (k p : Nat) (n : Int), p ≤ b.length → p ≤ (numP b k p n).2.1 ∧ (numP b k p n).2.1 ≤ b.length
 | 0, p, n, h => by
   unfold numP
   split <;> dsimp only <;> omega
 | k + 1, p, n, h => by
   unfold numP
   split
   · split
     · dsimp only; omega
     · split
       · split <;> dsimp only <;> omega
       · have := numP_le b k (p + 1) (128 * n + b.getD p 0 % 128) (by omega)
         omega
   · dsimp only; omega
theorem numP_end (b : List Int) (k p : Nat) (n : Int) (h : ¬ p < b.length) : numP b k p n = (0, p, 3) := by
 cases k <;> simp only [numP, h, if_false]
abbrev TagP : Type := Int × Int × Bool
def tag0 : TagP := (0, 0, false)
def keepP {α : Type} (z : α) (p : Nat) (r : α × Nat × Int) : α × Nat × Int := if r.2.2 = 0 then r else (z, p, r.2.2)
theorem keepP_ok {α : Type} (z : α) (p : Nat) (r : α × Nat × Int) (h : r.2.2 = 0) : keepP z p r = r := if_pos h
theorem keepP_err {α : Type} (z : α) (p : Nat) (r : α × Nat × Int) (h : ¬ r.2.2 = 0) : keepP z p r = (z, p, r.2.2) := if_neg h
theorem keepP_le {α : Type} (z : α) (p n : Nat) (r : α × Nat × Int) (h : p ≤ r.2.1 ∧ r.2.1 ≤ n) : p ≤ (keepP z p r).2.1 ∧ (keepP z p r).2.1 ≤ n := by
 unfold keepP
 split
 · exact h
 · dsimp only; omega
def rawT (b : List Int) (p : Nat) : TagP × Nat × Int :=
 if p < b.length then
   if b.getD p 0 % 32 = 31 then ((b.getD p 0 / 64, (numP b 3 (p + 1) 0).1, decide (b.getD p 0 / 32 % 2 = 1)), (numP b 3 (p + 1) 0).2.1, (numP b 3 (p + 1) 0).2.2)
   else ((b.getD p 0 / 64, b.getD p 0 % 32, decide (b.getD p 0 / 32 % 2 = 1)), p + 1, 0)
 else (tag0, p, 3)
def tagP (b : List Int) (p : Nat) : TagP × Nat × Int := keepP tag0 p (rawT b p)
theorem rawT_le (b : List Int) (p : Nat) (h : p ≤ b.length) : p ≤ (rawT b p).2.1 ∧ (rawT b p).2.1 ≤ b.length := by
 have := numP_le b 3 (p + 1) 0
 unfold rawT
 split
 · split
   · dsimp only; omega
   · dsimp only; omega
 · dsimp only; omega
theorem tagP_le (b : List Int) (p : Nat) (h : p ≤ b.length) : p ≤ (tagP b p).2.1 ∧ (tagP b p).2.1 ≤ b.length := keepP_le _ _ _ _ (rawT_le b p h)
def longP (b : List Int) (p n : Nat) : Int × Nat × Int :=
 if b.length < p + n then (0, p, 3)
 else if b.getD p 0 = 0 ∨ valA 0 ((b.drop p).take n) < 128 then (0, p + n, 5)
 else if 16777216 < valA 0 ((b.drop p).take n) then (0, p + n, 2)
 else (valA 0 ((b.drop p).take n), p + n, 0)
def rawL (b : List Int) (p : Nat) : Int × Nat × Int :=
 if p < b.length then
   if b.getD p 0 < 128 then (b.getD p 0, p + 1, 0)
   else if b.getD p 0 = 128 ∨ 132 < b.getD p 0 then (0, p + 1, 5)
   else longP b (p + 1) (b.getD p 0 % 128).toNat
 else (0, p, 3)
def lenP (b : List Int) (p : Nat) : Int × Nat × Int := keepP 0 p (rawL b p)
theorem longP_le (b : List Int) (p n : Nat) (h : p ≤ b.length) : p ≤ (longP b p n).2.1 ∧ (longP b p n).2.1 ≤ b.length := by
 unfold longP
 split
 · dsimp only; omega
 · split
   · dsimp only; omega
   · split <;> dsimp only <;> omega
theorem rawL_le (b : List Int) (p : Nat) (h : p ≤ b.length) : p ≤ (rawL b p).2.1 ∧ (rawL b p).2.1 ≤ b.length := by
 unfold rawL
 split
 · split
   · dsimp only; omega
   · split
     · dsimp only; omega
     · have := longP_le b (p + 1) (b.getD p 0 % 128).toNat (by omega)
       omega
 · dsimp only; omega
theorem lenP_le (b : List Int) (p : Nat) (h : p ≤ b.length) : p ≤ (lenP b p).2.1 ∧ (lenP b p).2.1 ≤ b.length := keepP_le _ _ _ _ (rawL_le b p h)
def rawF (b : List Int) (p : Nat) : (TagP × Int) × Nat × Int :=
 if (tagP b p).2.2 = 0 then (((tagP b p).1, (lenP b (tagP b p).2.1).1), (lenP b (tagP b p).2.1).2.1, (lenP b (tagP b p).2.1).2.2)
 else ((tag0, 0), p, (tagP b p).2.2)
def readP (b : List Int) (p : Nat) : (TagP × Int) × Nat × Int := keepP (tag0, 0) p (rawF b p)
theorem rawF_le (b : List Int) (p : Nat) (h : p ≤ b.length) : p ≤ (rawF b p).2.1 ∧ (rawF b p).2.1 ≤ b.length := by
 have h1 := tagP_le b p h
 have h2 := lenP_le b (tagP b p).2.1 h1.2
 unfold rawF
 split
 · dsimp only; omega
 · dsimp only; omega
theorem readP_le (b : List Int) (p : Nat) (h : p ≤ b.length) : p ≤ (readP b p).2.1 ∧ (readP b p).2.1 ≤ b.length := keepP_le _ _ _ _ (rawF_le b p h)
def rawO (b : List Int) (p : Nat) (t : TagP) : List Int × Nat × Int :=
 if (readP b p).2.2 = 0 then
   if (readP b p).1.1 = t then
     if (b.length : Int) - ((readP b p).2.1 : Int) < (readP b p).1.2 then ([], (readP b p).2.1, 3)
     else ((b.drop (readP b p).2.1).take (readP b p).1.2.toNat, (readP b p).2.1 + (readP b p).1.2.toNat, 0)
   else ([], (readP b p).2.1, 4)
 else ([], p, (readP b p).2.2)
def openP (b : List Int) (p : Nat) (t : TagP) : List Int × Nat × Int := keepP [] p (rawO b p t)
theorem rawO_le (b : List Int) (p : Nat) (t : TagP) (h : p ≤ b.length) : p ≤ (rawO b p t).2.1 ∧ (rawO b p t).2.1 ≤ b.length := by
 have h1 := readP_le b p h
 unfold rawO
 split
 · split
   · split <;> dsimp only <;> omega
   · dsimp only; omega
 · dsimp only; omega
theorem openP_le (b : List Int) (p : Nat) (t : TagP) (h : p ≤ b.length) : p ≤ (openP b p t).2.1 ∧ (openP b p t).2.1 ≤ b.length := keepP_le _ _ _ _ (rawO_le b p t h)
theorem lenP_pos (b : List Int) (p : Nat) (hw : ∀ x ∈ b, 0 ≤ x ∧ x < 256) : 0 ≤ (lenP b p).1 ∧ (lenP b p).1 ≤ 16777216 := by
 unfold lenP keepP
 split
 · unfold rawL
   split
   · rename_i h
     have hx : 0 ≤ b.getD p 0 ∧ b.getD p 0 < 256 := by
       rw [List.getD_eq_getElem?_getD, List.getElem?_eq_getElem h]
       exact hw _ (List.getElem_mem h)
     split
     · dsimp only; omega
     · split
       · dsimp only; omega
       · unfold longP
         split
         · dsimp only; omega
         · split
           · dsimp only; omega
           · split <;> dsimp only <;> omega
   · dsimp only; omega
 · dsimp only; omega
theorem readP_pos (b : List Int) (p : Nat) (hw : ∀ x ∈ b, 0 ≤ x ∧ x < 256) : 0 ≤ (readP b p).1.2 ∧ (readP b p).1.2 ≤ 16777216 := by
 have := lenP_pos b (tagP b p).2.1 hw
 unfold readP keepP
 split
 · unfold rawF
   split
   · exact this
   · dsimp only; omega
 · dsimp only; omega
theorem getD_wf {l : List Int} (hw : WfB l) (p : Nat) : 0 ≤ l.getD p 0 ∧ l.getD p 0 < 256 := by
 by_cases h : p < l.length
 · rw [List.getD_eq_getElem?_getD, List.getElem?_eq_getElem h]
   exact hw _ (List.getElem_mem h)
 · rw [List.getD_eq_getElem?_getD, List.getElem?_eq_none (by omega)]
   exact ⟨by decide, by decide⟩
theorem and127 {d : Int} (h : 0 ≤ d ∧ d < 256) : IntKind.u8.wrap (BitVec.ofInt IntKind.u8.bits d &&& BitVec.ofInt IntKind.u8.bits 127).toNat = d % 128 := by
 have key : ∀ k : Fin 256, IntKind.u8.wrap (BitVec.ofInt IntKind.u8.bits ((k.val : Nat) : Int) &&& BitVec.ofInt IntKind.u8.bits 127).toNat = ((k.val : Nat) : Int) % 128 := by decide +kernel
 have := key ⟨d.toNat, by omega⟩
 simpa [show ((d.toNat : Nat) : Int) = d by omega] using this
theorem and31 {d : Int} (h : 0 ≤ d ∧ d < 256) : IntKind.u8.wrap (BitVec.ofInt IntKind.u8.bits d &&& BitVec.ofInt IntKind.u8.bits 31).toNat = d % 32 := by
 have key : ∀ k : Fin 256, IntKind.u8.wrap (BitVec.ofInt IntKind.u8.bits ((k.val : Nat) : Int) &&& BitVec.ofInt IntKind.u8.bits 31).toNat = ((k.val : Nat) : Int) % 32 := by decide +kernel
 have := key ⟨d.toNat, by omega⟩
 simpa [show ((d.toNat : Nat) : Int) = d by omega] using this
theorem and32b {d : Int} (h : 0 ≤ d ∧ d < 256) : (IntKind.u8.wrap (BitVec.ofInt IntKind.u8.bits d &&& BitVec.ofInt IntKind.u8.bits 32).toNat != 0) = decide (d / 32 % 2 = 1) := by
 have key : ∀ k : Fin 256, (IntKind.u8.wrap (BitVec.ofInt IntKind.u8.bits ((k.val : Nat) : Int) &&& BitVec.ofInt IntKind.u8.bits 32).toNat != 0) = decide (((k.val : Nat) : Int) / 32 % 2 = 1) := by decide +kernel
 have := key ⟨d.toNat, by omega⟩
 simpa [show ((d.toNat : Nat) : Int) = d by omega] using this
theorem or_i64 (s : Nat) (hs : s ≤ 8) (c x : Int) (hc : 0 ≤ c ∧ c < 1099511627776) (hx : 0 ≤ x ∧ x < 2 ^ s) : IntKind.i64.wrap (BitVec.ofInt IntKind.i64.bits (2 ^ s * c) ||| BitVec.ofInt IntKind.i64.bits x).toNat = 2 ^ s * c + x := by
 obtain ⟨c, rfl⟩ : ∃ m : Nat, c = m := ⟨c.toNat, by omega⟩
 obtain ⟨x, rfl⟩ : ∃ m : Nat, x = m := ⟨x.toNat, by omega⟩
 have hp : (2 : Nat) ^ s ≤ 256 := Nat.pow_le_pow_right (by decide) hs
 have hx2 : x < 2 ^ s := by
   have h2 : ((2 ^ s : Nat) : Int) = (2 : Int) ^ s := by simp
   have := hx.2
   rw [← h2] at this
   omega
 have h1 : 2 ^ s * c + x = 2 ^ s * c ||| x := Nat.two_pow_add_eq_or_of_lt (i := s) hx2 c
 have hb : 2 ^ s * c ≤ 256 * c := Nat.mul_le_mul_right c hp
 have e0 : (2 : Int) ^ s * (c : Int) = ((2 ^ s * c : Nat) : Int) := by simp
 rw [e0]
 generalize 2 ^ s * c = m at *
 have e1 : (BitVec.ofInt IntKind.i64.bits (m : Int)).toNat = m := by
   rw [BitVec.toNat_ofInt]; simp only [IntKind.bits]; omega
 have e2 : (BitVec.ofInt IntKind.i64.bits (x : Int)).toNat = x := by
   rw [BitVec.toNat_ofInt]; simp only [IntKind.bits]; omega
 rw [BitVec.toNat_or, e1, e2, ← h1]
 simp only [IntKind.wrap, IntKind.signed, IntKind.bits]
 simp
 omega
theorem or7 (c x : Int) (hc : 0 ≤ c ∧ c < 1099511627776) (hx : 0 ≤ x ∧ x < 128) : IntKind.i64.wrap (BitVec.ofInt IntKind.i64.bits (c * 2 ^ min (Int.toNat 7) IntKind.i64.bits) ||| BitVec.ofInt IntKind.i64.bits x).toNat = 128 * c + x := by
 have e : c * 2 ^ min (Int.toNat 7) IntKind.i64.bits = 2 ^ 7 * c := by
   have : min (Int.toNat 7) IntKind.i64.bits = 7 := by decide
   rw [this, Int.mul_comm]
 rw [e]
 exact or_i64 7 (by decide) c x hc hx
theorem or8i (c x : Int) (hc : 0 ≤ c ∧ c < 1099511627776) (hx : 0 ≤ x ∧ x < 256) : IntKind.i64.wrap (BitVec.ofInt IntKind.i64.bits (c * 2 ^ min (Int.toNat 8) IntKind.i64.bits) ||| BitVec.ofInt IntKind.i64.bits x).toNat = 256 * c + x := by
 have e : c * 2 ^ min (Int.toNat 8) IntKind.i64.bits = 2 ^ 8 * c := by
   have : min (Int.toNat 8) IntKind.i64.bits = 8 := by decide
   rw [this, Int.mul_comm]
 rw [e]
 exact or_i64 8 (by decide) c x hc hx
theorem numP_step (b : List Int) (i p : Nat) (n : Int) (hi : i < 3) (hp : p < b.length) : numP b (3 - i) p n = if i = 0 ∧ b.getD p 0 = 128 then (0, p + 1, 4) else if b.getD p 0 < 128 then
       if 128 * n + b.getD p 0 % 128 < 31 then (0, p + 1, 4) else (128 * n + b.getD p 0 % 128, p + 1, 0)
     else numP b (3 - (i + 1)) (p + 1) (128 * n + b.getD p 0 % 128) := by
 have e : 3 - i = (2 - i) + 1 := by omega
 have e2 : 3 - (i + 1) = 2 - i := by omega
 have e3 : (2 - i = 2) ↔ i = 0 := by omega
 rw [e, e2]
 simp only [numP, hp, if_true, e3]
abbrev numR (r : Int × Nat × Int) : Av := .tup [lv (.int .i64 r.1), lv (.int .i64 r.2.2)]
structure NS where
 i : Nat
 p : Nat
 n : Int
def NS.ok (l : List Int) (p : Nat) (s : NS) : Prop := s.i ≤ 3 ∧ s.p ≤ l.length ∧ numP l (3 - s.i) s.p s.n = numP l 3 p 0 ∧ 0 ≤ s.n ∧ (s.i = 0 ∧ s.n < 1 ∨ s.i = 1 ∧ s.n < 128 ∨ s.i = 2 ∧ s.n < 16384 ∨ s.i = 3 ∧ s.n < 2097152)
set_option maxHeartbeats 4000000 in
theorem number_ok (l : List Int) (p : Nat) (hp : p ≤ l.length) (hl : l.length ≤ 1000000) (hw : WfB l) : Ct Tryz.prog 125 [.c (.ptr 0 0)] [curB l p] (numR (numP l 3 p 0)) [curB l (numP l 3 p 0).2.1] [] := by
 have h0 : NS.ok l p ⟨0, p, 0⟩ := ⟨by simp, hp, rfl, by simp, by simp⟩
 refine Ct_intro Tryz.func125 rfl rfl rfl rfl rfl (fun E hn hb => ?_)
 repeat (refine nst ?_)
 refine W_weaken (St.le_of (l := [(0, .c (.ptr 0 0)), (4, lv (.int .i64 0)), (8, lv (.int .i64 ((0 : Nat) : Int)))]) (h := [(0, curB l p)]) (by refine ⟨?_, ?_⟩ <;> (repeat' (first | exact trivial | exact rfl | refine ⟨?_, ?_⟩)) <;> first | exact rfl | (simp; done) | skip)) ?_
 refine W_loop (ι := {s : NS // s.ok l p}) (fun s => St.of [(0, .c (.ptr 0 0)), (4, lv (.int .i64 s.1.n)), (8, lv (.int .i64 (s.1.i : Int)))] [(0, curB l s.1.p)]) (fun s => 3 - s.1.i) (fun s => ?_) ⟨⟨0, p, 0⟩, h0⟩
 obtain ⟨⟨i, q, n⟩, hi, hq, hR, hn0, hn1⟩ := s
 dsimp only at hi hq hR hn0 hn1 ⊢
 generalize hRR : numP l 3 p 0 = R at hR ⊢
 repeat (refine nst ?_)
 refine W_cond rfl (by simp) (fun hc => ?_) (fun hc => ?_)
 · repeat (refine nst ?_)
   by_cases hqe : q < l.length
   · have hd := getD_wf hw q
     have hby := byte_ok l q hqe hl
     refine s_call [0] hby rfl rfl (by rw [hn]; rfl) rfl rfl (by trivial) ⟨rfl, rfl, (by simp [ordL]), rfl⟩ ?_
     repeat (refine nst ?_)
     refine W_cond rfl (by simp) (fun h1 => ?_) (fun h1 => ?_)
     · simp at h1
     repeat (refine nst ?_)
     generalize hdd : l.getD q 0 = d at *
     refine W_cond rfl (by simp) (fun h2 => ?_) (fun h2 => ?_)
     · have h2' : i = 0 ∧ d = 128 := by
         simpa using h2
       rw [numP_step l i q n (by omega) hqe, hdd, if_pos h2'] at hR
       subst hR
       repeat (refine nst ?_)
       refine W_cond rfl (by simp) (fun h3 => ?_) (fun h3 => ?_)
       · repeat (refine nst ?_)
         exact rt1 []
       · exact absurd (h2.symm.trans h3) (by decide)
     · have h2' : ¬ (i = 0 ∧ d = 128) := by
         rintro ⟨rfl, rfl⟩
         simp at h2
       clear h2
       repeat (refine nst ?_)
       refine W_cond rfl (by simp) (fun h3 => ?_) (fun h3 => ?_)
       · have h3' : i = 3 := by simp at h3; omega
         subst h3'
         simp only [Nat.sub_self, numP, hqe, if_true] at hR
         subst hR
         repeat (refine nst ?_)
         exact rt1 []
       · have h3' : i < 3 := by simp at h3; omega
         rw [numP_step l i q n h3' hqe, hdd, if_neg h2'] at hR
         have ha := and127 hd
         have ho := or7 n (d % 128) ⟨hn0, by omega⟩ (by omega)
         repeat (refine nst ?_)
         rw [ha, ho]
         generalize hmm : 128 * n + d % 128 = m at *
         refine W_cond rfl (by simp) (fun h4 => ?_) (fun h4 => ?_)
         · have h4' : d < 128 := by simpa using h4
           rw [if_pos h4'] at hR
           repeat (refine nst ?_)
           refine W_cond rfl (by simp) (fun h5 => ?_) (fun h5 => ?_)
           · have h5' : m < 31 := by simpa using h5
             rw [if_pos h5'] at hR
             subst hR
             repeat (refine nst ?_)
             exact rt1 []
           · have h5' : ¬ m < 31 := by simpa using h5
             rw [if_neg h5'] at hR
             subst hR
             repeat (refine nst ?_)
             exact rt1 []
         · have h4' : ¬ d < 128 := by simpa using h4
           rw [if_neg h4'] at hR
           repeat (refine nst ?_)
           refine N_round ⟨⟨i + 1, q + 1, m⟩, ⟨by dsimp only; omega, by dsimp only; omega, hR.trans hRR.symm, by dsimp only; omega, by dsimp only; omega⟩⟩ (by dsimp only; omega) (St.le_of ⟨⟨rfl, rfl, rfl⟩, rfl⟩)
   · have e : q = l.length := by omega
     subst e
     rw [numP_end l _ _ _ hqe] at hR
     subst hR
     have hby := byte_end l hl
     refine s_call [0] hby rfl rfl (by rw [hn]; rfl) rfl rfl (by trivial) ⟨rfl, rfl, (by simp [ordL]), rfl⟩ ?_
     repeat (refine nst ?_)
     refine W_cond rfl (by simp) (fun h1 => ?_) (fun h1 => ?_)
     · repeat (refine nst ?_)
       exact rt1 []
     · simp at h1
 · simp at hc; omega

abbrev tagA (t : TagP) : Av := .agg [.lf (.v (.int .i64 t.1)), .lf (.v (.int .i64 t.2.1)), .lf (.v (.bool t.2.2))]
abbrev tagE (t : TagP) (e : Int) : Av := .tup [tagA t, lv (.int .i64 e)]
abbrev ptrB : Blk := .cells [.ptr 0 0]
theorem keptT_ok (g : FuncId) (l : List Int) (p q : Nat) (t : TagP) (hg : Ct Tryz.prog g [.c (.ptr 1 0)] [curB l p, ptrB] (tagE t 0) [curB l q, ptrB] []) :
   Ct Tryz.prog 122 [.c (.ptr 0 0), .c (.fn (.func g) [] [.ptr 1 0])] [curB l p, ptrB] (tagE t 0) [curB l q, ptrB] [] := by
 refine Ct_intro Tryz.func122 rfl rfl rfl rfl rfl (fun E hn hb => ?_)
 repeat (refine nst ?_)
 refine s_allocN rfl rfl rfl (by rw [hn]; rfl) rfl zok119 ?_
 repeat (refine nst ?_)
 refine WL_q (opq_of (opy_callL (at_ok l p) rfl rfl rfl (by exact vcs) ⟨.inr (.inr ⟨0, 0, _, _, rfl, rfl, rfl, rfl⟩), trivial⟩ rfl) rfl) (by rw [hn]; rfl) ?_
 repeat (refine nst ?_)
 refine s_call [0, 1] hg rfl rfl (by rw [hn]; rfl) rfl rfl (by trivial) ⟨rfl, ⟨rfl, rfl⟩, (by simp [ordL]), rfl⟩ ?_
 repeat (refine nst ?_)
 refine s_allocN rfl rfl rfl (by rw [hn]; rfl) rfl zok119 ?_
 repeat (refine nst ?_)
 refine s_storeN rfl rfl rfl rfl rfl (by exact vcs) rfl rfl rfl (by rw [cellsOf119]; rfl) (by rw [info119]; rfl) rfl rfl ?_
 repeat (refine nst ?_)
 refine W_cond rfl (by simp) (fun h1 => ?_) (fun h1 => ?_)
 · simp at h1
 repeat (refine nst ?_)
 refine s_storeN rfl rfl rfl rfl rfl (by exact vcs) rfl rfl rfl (by rw [cellsOf119]; rfl) (by rw [info119]; rfl) rfl rfl ?_
 repeat (refine nst ?_)
 exact rt1 []
theorem keptT_err (g : FuncId) (l : List Int) (p q : Nat) (t : TagP) (e : Int) (he : e ≠ 0) (hq : p ≤ q) (hl : q ≤ 1000000) (hg : Ct Tryz.prog g [.c (.ptr 1 0)] [curB l p, ptrB] (tagE t e) [curB l q, ptrB] []) :
   Ct Tryz.prog 122 [.c (.ptr 0 0), .c (.fn (.func g) [] [.ptr 1 0])] [curB l p, ptrB] (tagE tag0 e) [curB l p, ptrB] [] := by
 have hbk := back_ok l q p hq hl
 refine Ct_intro Tryz.func122 rfl rfl rfl rfl rfl (fun E hn hb => ?_)
 repeat (refine nst ?_)
 refine s_allocN rfl rfl rfl (by rw [hn]; rfl) rfl zok119 ?_
 repeat (refine nst ?_)
 refine WL_q (opq_of (opy_callL (at_ok l p) rfl rfl rfl (by exact vcs) ⟨.inr (.inr ⟨0, 0, _, _, rfl, rfl, rfl, rfl⟩), trivial⟩ rfl) rfl) (by rw [hn]; rfl) ?_
 repeat (refine nst ?_)
 refine s_call [0, 1] hg rfl rfl (by rw [hn]; rfl) rfl rfl (by trivial) ⟨rfl, ⟨rfl, rfl⟩, (by simp [ordL]), rfl⟩ ?_
 repeat (refine nst ?_)
 refine s_allocN rfl rfl rfl (by rw [hn]; rfl) rfl zok119 ?_
 repeat (refine nst ?_)
 refine s_storeN rfl rfl rfl rfl rfl (by exact vcs) rfl rfl rfl (by rw [cellsOf119]; rfl) (by rw [info119]; rfl) rfl rfl ?_
 repeat (refine nst ?_)
 refine W_cond rfl (by simp) (fun h1 => ?_) (fun h1 => ?_)
 · repeat (refine nst ?_)
   refine s_allocN rfl rfl rfl (by rw [hn]; rfl) rfl zok119 ?_
   repeat (refine nst ?_)
   refine s_call [0] hbk rfl rfl (by rw [hn]; rfl) rfl rfl (by trivial) ⟨rfl, rfl, (by simp [ordL]), rfl⟩ ?_
   repeat (refine nst ?_)
   refine s_storeN rfl rfl rfl rfl rfl (by exact vcs) rfl rfl rfl (by rw [cellsOf119]; rfl) (by rw [info119]; rfl) rfl rfl ?_
   repeat (refine nst ?_)
   exact rt1 []
 · simp [he] at h1
theorem rawT_ok (l : List Int) (p : Nat) (hp : p ≤ l.length) (hl : l.length ≤ 1000000) (hw : WfB l) : Ct Tryz.prog 123 [.c (.ptr 1 0)] [curB l p, ptrB] (tagE (rawT l p).1 (rawT l p).2.2) [curB l (rawT l p).2.1, ptrB] [] := by
 generalize hRR : rawT l p = R
 unfold rawT at hRR
 refine Ct_intro Tryz.func123 rfl rfl rfl rfl rfl (fun E hn hb => ?_)
 repeat (refine nst ?_)
 refine s_allocN rfl rfl rfl (by rw [hn]; rfl) rfl zok119 ?_
 repeat (refine nst ?_)
 by_cases hpe : p < l.length
 · rw [if_pos hpe] at hRR
   have hd := getD_wf hw p
   have hby := byte_ok l p hpe hl
   have hnm := number_ok l (p + 1) (by omega) hl hw
   generalize l.getD p 0 = d at *
   have ha := and31 hd
   have hab := and32b hd
   have e6 : d / 2 ^ min (Int.toNat 6) IntKind.u8.bits = d / 64 := by
     have : min (Int.toNat 6) IntKind.u8.bits = 6 := by decide
     rw [this]; rfl
   refine s_call [0] hby rfl rfl (by rw [hn]; rfl) rfl rfl (by trivial) ⟨rfl, rfl, (by simp [ordL]), rfl⟩ ?_
   repeat (refine nst ?_)
   refine W_cond rfl (by simp) (fun h1 => ?_) (fun h1 => ?_)
   · simp at h1
   repeat (refine nst ?_)
   refine s_allocN rfl rfl rfl (by rw [hn]; rfl) rfl zok119 ?_
   repeat (refine nst ?_)
   refine s_storeN rfl rfl rfl rfl rfl (by exact vcs) rfl rfl rfl (by rw [cellsOf119]; rfl) (by rw [info119]; rfl) rfl rfl ?_
   repeat (refine nst ?_)
   rw [ha, hab, e6]
   generalize numP l 3 (p + 1) 0 = N at *
   generalize decide (d / 32 % 2 = 1) = mk at *
   refine W_cond rfl (by simp) (fun h2 => ?_) (fun h2 => ?_)
   · have h2' : d % 32 = 31 := by simpa using h2
     rw [if_pos h2'] at hRR
     subst hRR
     repeat (refine nst ?_)
     refine s_call [0] hnm rfl rfl (by rw [hn]; rfl) rfl rfl (by trivial) ⟨rfl, rfl, (by simp [ordL]), rfl⟩ ?_
     repeat (refine nst ?_)
     refine s_storeN rfl rfl rfl rfl rfl (by exact vcs) rfl rfl rfl (by rw [cellsOf3]; rfl) (by rw [info3]; rfl) rfl rfl ?_
     repeat (refine nst ?_)
     refine s_storeN rfl rfl rfl rfl rfl (by exact vcs) rfl rfl rfl (by rw [cellsOf119]; rfl) (by rw [info119]; rfl) rfl rfl ?_
     repeat (refine nst ?_)
     exact rt1 []
   · have h2' : ¬ d % 32 = 31 := by simpa using h2
     rw [if_neg h2'] at hRR
     subst hRR
     repeat (refine nst ?_)
     refine s_storeN rfl rfl rfl rfl rfl (by exact vcs) rfl rfl rfl (by rw [cellsOf119]; rfl) (by rw [info119]; rfl) rfl rfl ?_
     repeat (refine nst ?_)
     exact rt1 []
 · rw [if_neg hpe] at hRR
   subst hRR
   have e : p = l.length := by omega
   subst e
   have hby := byte_end l hl
   refine s_call [0] hby rfl rfl (by rw [hn]; rfl) rfl rfl (by trivial) ⟨rfl, rfl, (by simp [ordL]), rfl⟩ ?_
   repeat (refine nst ?_)
   refine W_cond rfl (by simp) (fun h1 => ?_) (fun h1 => ?_)
   · repeat (refine nst ?_)
     refine s_storeN rfl rfl rfl rfl rfl (by exact vcs) rfl rfl rfl (by rw [cellsOf119]; rfl) (by rw [info119]; rfl) rfl rfl ?_
     repeat (refine nst ?_)
     exact rt1 []
   · simp at h1
theorem readTag_ok (l : List Int) (p : Nat) (hp : p ≤ l.length) (hl : l.length ≤ 1000000) (hw : WfB l) : Ct Tryz.prog 108 [.c (.ptr 0 0)] [curB l p] (tagE (tagP l p).1 (tagP l p).2.2) [curB l (tagP l p).2.1] [] := by
 have hr := rawT_ok l p hp hl hw
 have hle := rawT_le l p hp
 generalize hRR : tagP l p = R
 unfold tagP at hRR
 by_cases he : (rawT l p).2.2 = 0
 · rw [keepP_ok _ _ _ he] at hRR
   rw [hRR] at hr he hle
   rw [he] at hr
   have hk := keptT_ok 123 l p R.2.1 R.1 hr
   rw [he]
   refine Ct_intro Tryz.func108 rfl rfl rfl rfl rfl (fun E hn hb => ?_)
   repeat (refine nst ?_)
   refine s_boxN rfl rfl rfl (by rw [hn]; rfl) rfl (by exact vcs) rfl rfl ?_
   repeat (refine nst ?_)
   refine s_allocN rfl rfl rfl (by rw [hn]; rfl) rfl zok119 ?_
   repeat (refine nst ?_)
   refine s_call [0, 65] hk rfl rfl (by rw [hn]; rfl) rfl rfl (by trivial) ⟨rfl, ⟨rfl, rfl⟩, (by simp [ordL]), rfl⟩ ?_
   repeat (refine nst ?_)
   refine s_storeN rfl rfl rfl rfl rfl (by exact vcs) rfl rfl rfl (by rw [cellsOf119]; rfl) (by rw [info119]; rfl) rfl rfl ?_
   repeat (refine nst ?_)
   exact rt1 []
 · rw [keepP_err _ _ _ he] at hRR
   subst hRR
   generalize rawT l p = R at *
   have hk := keptT_err 123 l p R.2.1 R.1 R.2.2 he hle.1 (by omega) hr
   refine Ct_intro Tryz.func108 rfl rfl rfl rfl rfl (fun E hn hb => ?_)
   repeat (refine nst ?_)
   refine s_boxN rfl rfl rfl (by rw [hn]; rfl) rfl (by exact vcs) rfl rfl ?_
   repeat (refine nst ?_)
   refine s_allocN rfl rfl rfl (by rw [hn]; rfl) rfl zok119 ?_
   repeat (refine nst ?_)
   refine s_call [0, 65] hk rfl rfl (by rw [hn]; rfl) rfl rfl (by trivial) ⟨rfl, ⟨rfl, rfl⟩, (by simp [ordL]), rfl⟩ ?_
   repeat (refine nst ?_)
   refine s_storeN rfl rfl rfl rfl rfl (by exact vcs) rfl rfl rfl (by rw [cellsOf119]; rfl) (by rw [info119]; rfl) rfl rfl ?_
   repeat (refine nst ?_)
   exact rt1 []
end Go.Proofs.YtohfhephkjihfaaGreat

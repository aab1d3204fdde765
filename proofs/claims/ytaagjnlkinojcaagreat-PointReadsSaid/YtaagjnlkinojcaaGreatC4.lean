/-
  Chapter 02: tags that are read. The conditions: rows of at most a million bytes.
-/
import Derived.Test.YtaagjnlkinojcaaGreatW16
namespace Go.Proofs.YtaagjnlkinojcaaGreat
set_option linter.unusedSimpArgs false
set_option linter.unusedVariables false
open Go.Sx
set_option maxRecDepth 10000
def z0Z (b : List Int) : Nat → Nat → Int → Int × Nat × Int
 | 0, p, _ => if p < b.length then (0, p + 1, 4) else (0, p, 3)
 | k + 1, p, n =>
   if p < b.length then
     if k = 2 ∧ b.getD p 0 = 128 then (0, p + 1, 4)
     else if b.getD p 0 < 128 then
       if 128 * n + b.getD p 0 % 128 < 31 then (0, p + 1, 4) else (128 * n + b.getD p 0 % 128, p + 1, 0)
     else z0Z b k (p + 1) (128 * n + b.getD p 0 % 128)
   else (0, p, 3)
theorem z9p (b : List Int) : ∀ (k p : Nat) (n : Int), p ≤ b.length → p ≤ (z0Z b k p n).2.1 ∧ (z0Z b k p n).2.1 ≤ b.length
 | 0, p, n, h => by
   unfold z0Z
   split <;> dsimp only <;> omega
 | k + 1, p, n, h => by
   unfold z0Z
   split
   · split
     · dsimp only; omega
     · split
       · split <;> dsimp only <;> omega
       · have := z9p b k (p + 1) (128 * n + b.getD p 0 % 128) (by omega)
         omega
   · dsimp only; omega
theorem zbs (b : List Int) (k p : Nat) (n : Int) (h : ¬ p < b.length) : z0Z b k p n = (0, p, 3) := by
 cases k <;> simp only [z0Z, h, if_false]
abbrev z0m : Type := Int × Int × Bool
def z5B : z0m := (0, 0, false)
def z0C {α : Type} (z : α) (p : Nat) (r : α × Nat × Int) : α × Nat × Int := if r.2.2 = 0 then r else (z, p, r.2.2)
theorem z2z {α : Type} (z : α) (p : Nat) (r : α × Nat × Int) (h : r.2.2 = 0) : z0C z p r = r := if_pos h
theorem z1e {α : Type} (z : α) (p : Nat) (r : α × Nat × Int) (h : ¬ r.2.2 = 0) : z0C z p r = (z, p, r.2.2) := if_neg h
theorem z4g {α : Type} (z : α) (p n : Nat) (r : α × Nat × Int) (h : p ≤ r.2.1 ∧ r.2.1 ≤ n) : p ≤ (z0C z p r).2.1 ∧ (z0C z p r).2.1 ≤ n := by
 unfold z0C
 split
 · exact h
 · dsimp only; omega
def z2W (b : List Int) (p : Nat) : z0m × Nat × Int :=
 if p < b.length then
   if b.getD p 0 % 32 = 31 then ((b.getD p 0 / 64, (z0Z b 3 (p + 1) 0).1, decide (b.getD p 0 / 32 % 2 = 1)), (z0Z b 3 (p + 1) 0).2.1, (z0Z b 3 (p + 1) 0).2.2)
   else ((b.getD p 0 / 64, b.getD p 0 % 32, decide (b.getD p 0 / 32 % 2 = 1)), p + 1, 0)
 else (z5B, p, 3)
def z0O (b : List Int) (p : Nat) : z0m × Nat × Int := z0C z5B p (z2W b p)
theorem zcu (b : List Int) (p : Nat) (h : p ≤ b.length) : p ≤ (z2W b p).2.1 ∧ (z2W b p).2.1 ≤ b.length := by
 have := z9p b 3 (p + 1) 0
 unfold z2W
 split
 · split
   · dsimp only; omega
   · dsimp only; omega
 · dsimp only; omega
theorem z7A (b : List Int) (p : Nat) (h : p ≤ b.length) : p ≤ (z0O b p).2.1 ∧ (z0O b p).2.1 ≤ b.length := z4g _ _ _ _ (zcu b p h)
def z2v (b : List Int) (p n : Nat) : Int × Nat × Int :=
 if b.length < p + n then (0, p, 3)
 else if b.getD p 0 = 0 ∨ z0L 0 ((b.drop p).take n) < 128 then (0, p + n, 5)
 else if 16777216 < z0L 0 ((b.drop p).take n) then (0, p + n, 2)
 else (z0L 0 ((b.drop p).take n), p + n, 0)
def z3l (b : List Int) (p : Nat) : Int × Nat × Int :=
 if p < b.length then
   if b.getD p 0 < 128 then (b.getD p 0, p + 1, 0)
   else if b.getD p 0 = 128 ∨ 132 < b.getD p 0 then (0, p + 1, 5)
   else z2v b (p + 1) (b.getD p 0 % 128).toNat
 else (0, p, 3)
def lenP (b : List Int) (p : Nat) : Int × Nat × Int := z0C 0 p (z3l b p)
theorem zgs (b : List Int) (p n : Nat) (h : p ≤ b.length) : p ≤ (z2v b p n).2.1 ∧ (z2v b p n).2.1 ≤ b.length := by
 unfold z2v
 split
 · dsimp only; omega
 · split
   · dsimp only; omega
   · split <;> dsimp only <;> omega
theorem zcv (b : List Int) (p : Nat) (h : p ≤ b.length) : p ≤ (z3l b p).2.1 ∧ (z3l b p).2.1 ≤ b.length := by
 unfold z3l
 split
 · split
   · dsimp only; omega
   · split
     · dsimp only; omega
     · have := zgs b (p + 1) (b.getD p 0 % 128).toNat (by omega)
       omega
 · dsimp only; omega
theorem zcw (b : List Int) (p : Nat) (h : p ≤ b.length) : p ≤ (lenP b p).2.1 ∧ (lenP b p).2.1 ≤ b.length := z4g _ _ _ _ (zcv b p h)
def z2X (b : List Int) (p : Nat) : (z0m × Int) × Nat × Int :=
 if (z0O b p).2.2 = 0 then (((z0O b p).1, (lenP b (z0O b p).2.1).1), (lenP b (z0O b p).2.1).2.1, (lenP b (z0O b p).2.1).2.2)
 else ((z5B, 0), p, (z0O b p).2.2)
def z09 (b : List Int) (p : Nat) : (z0m × Int) × Nat × Int := z0C (z5B, 0) p (z2X b p)
theorem zcx (b : List Int) (p : Nat) (h : p ≤ b.length) : p ≤ (z2X b p).2.1 ∧ (z2X b p).2.1 ≤ b.length := by
 have h1 := z7A b p h
 have h2 := zcw b (z0O b p).2.1 h1.2
 unfold z2X
 split
 · dsimp only; omega
 · dsimp only; omega
theorem z13 (b : List Int) (p : Nat) (h : p ≤ b.length) : p ≤ (z09 b p).2.1 ∧ (z09 b p).2.1 ≤ b.length := z4g _ _ _ _ (zcx b p h)
def z1I (b : List Int) (p : Nat) (t : z0m) : List Int × Nat × Int :=
 if (z09 b p).2.2 = 0 then
   if (z09 b p).1.1 = t then
     if (b.length : Int) - ((z09 b p).2.1 : Int) < (z09 b p).1.2 then ([], (z09 b p).2.1, 3)
     else ((b.drop (z09 b p).2.1).take (z09 b p).1.2.toNat, (z09 b p).2.1 + (z09 b p).1.2.toNat, 0)
   else ([], (z09 b p).2.1, 4)
 else ([], p, (z09 b p).2.2)
def z0g (b : List Int) (p : Nat) (t : z0m) : List Int × Nat × Int := z0C [] p (z1I b p t)
theorem zcy (b : List Int) (p : Nat) (t : z0m) (h : p ≤ b.length) : p ≤ (z1I b p t).2.1 ∧ (z1I b p t).2.1 ≤ b.length := by
 have h1 := z13 b p h
 unfold z1I
 split
 · split
   · split <;> dsimp only <;> omega
   · dsimp only; omega
 · dsimp only; omega
theorem z2h (b : List Int) (p : Nat) (t : z0m) (h : p ≤ b.length) : p ≤ (z0g b p t).2.1 ∧ (z0g b p t).2.1 ≤ b.length := z4g _ _ _ _ (zcy b p t h)
theorem zgt (b : List Int) (p : Nat) (hw : ∀ x ∈ b, 0 ≤ x ∧ x < 256) : 0 ≤ (lenP b p).1 ∧ (lenP b p).1 ≤ 16777216 := by
 unfold lenP z0C
 split
 · unfold z3l
   split
   · rename_i h
     have hx : 0 ≤ b.getD p 0 ∧ b.getD p 0 < 256 := by
       rw [List.getD_eq_getElem?_getD, List.getElem?_eq_getElem h]
       exact hw _ (List.getElem_mem h)
     split
     · dsimp only; omega
     · split
       · dsimp only; omega
       · unfold z2v
         split
         · dsimp only; omega
         · split
           · dsimp only; omega
           · split <;> dsimp only <;> omega
   · dsimp only; omega
 · dsimp only; omega
theorem z1F (b : List Int) (p : Nat) (hw : ∀ x ∈ b, 0 ≤ x ∧ x < 256) : 0 ≤ (z09 b p).1.2 ∧ (z09 b p).1.2 ≤ 16777216 := by
 have := zgt b (z0O b p).2.1 hw
 unfold z09 z0C
 split
 · unfold z2X
   split
   · exact this
   · dsimp only; omega
 · dsimp only; omega
theorem z4T {l : List Int} (hw : WfB l) (p : Nat) : 0 ≤ l.getD p 0 ∧ l.getD p 0 < 256 := by
 by_cases h : p < l.length
 · rw [List.getD_eq_getElem?_getD, List.getElem?_eq_getElem h]
   exact hw _ (List.getElem_mem h)
 · rw [List.getD_eq_getElem?_getD, List.getElem?_eq_none (by omega)]
   exact ⟨by decide, by decide⟩
theorem zbt {d : Int} (h : 0 ≤ d ∧ d < 256) : IntKind.u8.wrap (BitVec.ofInt IntKind.u8.bits d &&& BitVec.ofInt IntKind.u8.bits 127).toNat = d % 128 := by
 have key : ∀ k : Fin 256, IntKind.u8.wrap (BitVec.ofInt IntKind.u8.bits ((k.val : Nat) : Int) &&& BitVec.ofInt IntKind.u8.bits 127).toNat = ((k.val : Nat) : Int) % 128 := by decide +kernel
 have := key ⟨d.toNat, by omega⟩
 simpa [show ((d.toNat : Nat) : Int) = d by omega] using this
theorem zo4 {d : Int} (h : 0 ≤ d ∧ d < 256) : IntKind.u8.wrap (BitVec.ofInt IntKind.u8.bits d &&& BitVec.ofInt IntKind.u8.bits 31).toNat = d % 32 := by
 have key : ∀ k : Fin 256, IntKind.u8.wrap (BitVec.ofInt IntKind.u8.bits ((k.val : Nat) : Int) &&& BitVec.ofInt IntKind.u8.bits 31).toNat = ((k.val : Nat) : Int) % 32 := by decide +kernel
 have := key ⟨d.toNat, by omega⟩
 simpa [show ((d.toNat : Nat) : Int) = d by omega] using this
theorem zmn {d : Int} (h : 0 ≤ d ∧ d < 256) : (IntKind.u8.wrap (BitVec.ofInt IntKind.u8.bits d &&& BitVec.ofInt IntKind.u8.bits 32).toNat != 0) = decide (d / 32 % 2 = 1) := by
 have key : ∀ k : Fin 256, (IntKind.u8.wrap (BitVec.ofInt IntKind.u8.bits ((k.val : Nat) : Int) &&& BitVec.ofInt IntKind.u8.bits 32).toNat != 0) = decide (((k.val : Nat) : Int) / 32 % 2 = 1) := by decide +kernel
 have := key ⟨d.toNat, by omega⟩
 simpa [show ((d.toNat : Nat) : Int) = d by omega] using this
theorem zf0 (s : Nat) (hs : s ≤ 8) (c x : Int) (hc : 0 ≤ c ∧ c < 1099511627776) (hx : 0 ≤ x ∧ x < 2 ^ s) : IntKind.i64.wrap (BitVec.ofInt IntKind.i64.bits (2 ^ s * c) ||| BitVec.ofInt IntKind.i64.bits x).toNat = 2 ^ s * c + x := by
 obtain ⟨c, rfl⟩ : ∃ m : Nat, c = m := ⟨c.toNat, by omega⟩
 obtain ⟨x, rfl⟩ : ∃ m : Nat, x = m := ⟨x.toNat, by omega⟩
 have hp : (2 : Nat) ^ s ≤ 256 := Nat.pow_le_pow_right (by decide) hs
 have hx2 : x < 2 ^ s := by
   have h2 : ((2 ^ s : Nat) : Int) = (2 : Int) ^ s := by simp
   have := hx.2
   rw [← h2] at this
   omega
 have h1 : 2 ^ s * c + x = 2 ^ s * c ||| x := Nat.two_pow_add_eq_or_of_lt (i := s) hx2 c
 have hb : 2 ^ s * c ≤ 256 * c := Nat.mul_le_mul_right c hp
 have e0 : (2 : Int) ^ s * (c : Int) = ((2 ^ s * c : Nat) : Int) := by simp
 rw [e0]
 generalize 2 ^ s * c = m at *
 have e1 : (BitVec.ofInt IntKind.i64.bits (m : Int)).toNat = m := by
   rw [BitVec.toNat_ofInt]; simp only [IntKind.bits]; omega
 have e2 : (BitVec.ofInt IntKind.i64.bits (x : Int)).toNat = x := by
   rw [BitVec.toNat_ofInt]; simp only [IntKind.bits]; omega
 rw [BitVec.toNat_or, e1, e2, ← h1]
 simp only [IntKind.wrap, IntKind.signed, IntKind.bits]
 simp
 omega
theorem or7 (c x : Int) (hc : 0 ≤ c ∧ c < 1099511627776) (hx : 0 ≤ x ∧ x < 128) : IntKind.i64.wrap (BitVec.ofInt IntKind.i64.bits (c * 2 ^ min (Int.toNat 7) IntKind.i64.bits) ||| BitVec.ofInt IntKind.i64.bits x).toNat = 128 * c + x := by
 have e : c * 2 ^ min (Int.toNat 7) IntKind.i64.bits = 2 ^ 7 * c := by
   have : min (Int.toNat 7) IntKind.i64.bits = 7 := by decide
   rw [this, Int.mul_comm]
 rw [e]
 exact zf0 7 (by decide) c x hc hx
theorem ztX (c x : Int) (hc : 0 ≤ c ∧ c < 1099511627776) (hx : 0 ≤ x ∧ x < 256) : IntKind.i64.wrap (BitVec.ofInt IntKind.i64.bits (c * 2 ^ min (Int.toNat 8) IntKind.i64.bits) ||| BitVec.ofInt IntKind.i64.bits x).toNat = 256 * c + x := by
 have e : c * 2 ^ min (Int.toNat 8) IntKind.i64.bits = 2 ^ 8 * c := by
   have : min (Int.toNat 8) IntKind.i64.bits = 8 := by decide
   rw [this, Int.mul_comm]
 rw [e]
 exact zf0 8 (by decide) c x hc hx
theorem z5t (b : List Int) (i p : Nat) (n : Int) (hi : i < 3) (hp : p < b.length) : z0Z b (3 - i) p n = if i = 0 ∧ b.getD p 0 = 128 then (0, p + 1, 4) else if b.getD p 0 < 128 then
       if 128 * n + b.getD p 0 % 128 < 31 then (0, p + 1, 4) else (128 * n + b.getD p 0 % 128, p + 1, 0)
     else z0Z b (3 - (i + 1)) (p + 1) (128 * n + b.getD p 0 % 128) := by
 have e : 3 - i = (2 - i) + 1 := by omega
 have e2 : 3 - (i + 1) = 2 - i := by omega
 have e3 : (2 - i = 2) ↔ i = 0 := by omega
 rw [e, e2]
 simp only [z0Z, hp, if_true, e3]
abbrev zbu (r : Int × Nat × Int) : Av := .tup [lv (.int .i64 r.1), lv (.int .i64 r.2.2)]
structure NS where
 i : Nat
 p : Nat
 n : Int
def NS.ok (l : List Int) (p : Nat) (s : NS) : Prop := s.i ≤ 3 ∧ s.p ≤ l.length ∧ z0Z l (3 - s.i) s.p s.n = z0Z l 3 p 0 ∧ 0 ≤ s.n ∧ (s.i = 0 ∧ s.n < 1 ∨ s.i = 1 ∧ s.n < 128 ∨ s.i = 2 ∧ s.n < 16384 ∨ s.i = 3 ∧ s.n < 2097152)
set_option maxHeartbeats 4000000 in
theorem zf1 (l : List Int) (p : Nat) (hp : p ≤ l.length) (hl : l.length ≤ 1000000) (hw : WfB l) : Ct Tryz.prog 202 [.c (.ptr 0 0)] [z04 l p] (zbu (z0Z l 3 p 0)) [z04 l (z0Z l 3 p 0).2.1] [] := by
 have h0 : NS.ok l p ⟨0, p, 0⟩ := ⟨by simp, hp, rfl, by simp, by simp⟩
 refine z00 Tryz.func202 rfl rfl rfl rfl rfl (fun E hn hb => ?_)
 repeat (refine nst ?_)
 refine z0a (St.le_of (l := [(0, .c (.ptr 0 0)), (4, lv (.int .i64 0)), (8, lv (.int .i64 ((0 : Nat) : Int)))]) (h := [(0, z04 l p)]) (by refine ⟨?_, ?_⟩ <;> (repeat' (first | exact trivial | exact rfl | refine ⟨?_, ?_⟩)) <;> first | exact rfl | (simp; done) | skip)) ?_
 refine z0j (ι := {s : NS // s.ok l p}) (fun s => St.of [(0, .c (.ptr 0 0)), (4, lv (.int .i64 s.1.n)), (8, lv (.int .i64 (s.1.i : Int)))] [(0, z04 l s.1.p)]) (fun s => 3 - s.1.i) (fun s => ?_) ⟨⟨0, p, 0⟩, h0⟩
 obtain ⟨⟨i, q, n⟩, hi, hq, hR, hn0, hn1⟩ := s
 dsimp only at hi hq hR hn0 hn1 ⊢
 generalize hRR : z0Z l 3 p 0 = R at hR ⊢
 repeat (refine nst ?_)
 refine z05 rfl (by simp) (fun hc => ?_) (fun hc => ?_)
 · repeat (refine nst ?_)
   by_cases hqe : q < l.length
   · have hd := z4T hw q
     have hby := z7C l q hqe hl
     refine z0n [0] hby rfl rfl (by rw [hn]; rfl) rfl rfl (by trivial) ⟨rfl, rfl, (by simp [z0i]), rfl⟩ ?_
     repeat (refine nst ?_)
     refine z05 rfl (by simp) (fun h1 => ?_) (fun h1 => ?_)
     · simp at h1
     repeat (refine nst ?_)
     generalize hdd : l.getD q 0 = d at *
     refine z05 rfl (by simp) (fun h2 => ?_) (fun h2 => ?_)
     · have h2' : i = 0 ∧ d = 128 := by
         simpa using h2
       rw [z5t l i q n (by omega) hqe, hdd, if_pos h2'] at hR
       subst hR
       repeat (refine nst ?_)
       refine z05 rfl (by simp) (fun h3 => ?_) (fun h3 => ?_)
       · repeat (refine nst ?_)
         exact rt1 []
       · exact absurd (h2.symm.trans h3) (by decide)
     · have h2' : ¬ (i = 0 ∧ d = 128) := by
         rintro ⟨rfl, rfl⟩
         simp at h2
       clear h2
       repeat (refine nst ?_)
       refine z05 rfl (by simp) (fun h3 => ?_) (fun h3 => ?_)
       · have h3' : i = 3 := by simp at h3; omega
         subst h3'
         simp only [Nat.sub_self, z0Z, hqe, if_true] at hR
         subst hR
         repeat (refine nst ?_)
         exact rt1 []
       · have h3' : i < 3 := by simp at h3; omega
         rw [z5t l i q n h3' hqe, hdd, if_neg h2'] at hR
         have ha := zbt hd
         have ho := or7 n (d % 128) ⟨hn0, by omega⟩ (by omega)
         repeat (refine nst ?_)
         rw [ha, ho]
         generalize hmm : 128 * n + d % 128 = m at *
         refine z05 rfl (by simp) (fun h4 => ?_) (fun h4 => ?_)
         · have h4' : d < 128 := by simpa using h4
           rw [if_pos h4'] at hR
           repeat (refine nst ?_)
           refine z05 rfl (by simp) (fun h5 => ?_) (fun h5 => ?_)
           · have h5' : m < 31 := by simpa using h5
             rw [if_pos h5'] at hR
             subst hR
             repeat (refine nst ?_)
             exact rt1 []
           · have h5' : ¬ m < 31 := by simpa using h5
             rw [if_neg h5'] at hR
             subst hR
             repeat (refine nst ?_)
             exact rt1 []
         · have h4' : ¬ d < 128 := by simpa using h4
           rw [if_neg h4'] at hR
           repeat (refine nst ?_)
           refine z06 ⟨⟨i + 1, q + 1, m⟩, ⟨by dsimp only; omega, by dsimp only; omega, hR.trans hRR.symm, by dsimp only; omega, by dsimp only; omega⟩⟩ (by dsimp only; omega) (St.le_of ⟨⟨rfl, rfl, rfl⟩, rfl⟩)
   · have e : q = l.length := by omega
     subst e
     rw [zbs l _ _ _ hqe] at hR
     subst hR
     have hby := z6u l hl
     refine z0n [0] hby rfl rfl (by rw [hn]; rfl) rfl rfl (by trivial) ⟨rfl, rfl, (by simp [z0i]), rfl⟩ ?_
     repeat (refine nst ?_)
     refine z05 rfl (by simp) (fun h1 => ?_) (fun h1 => ?_)
     · repeat (refine nst ?_)
       exact rt1 []
     · simp at h1
 · simp at hc; omega

abbrev z2A (t : z0m) : Av := .agg [.lf (.v (.int .i64 t.1)), .lf (.v (.int .i64 t.2.1)), .lf (.v (.bool t.2.2))]
abbrev z9q (t : z0m) (e : Int) : Av := .tup [z2A t, lv (.int .i64 e)]
abbrev z0W : Blk := .cells [.ptr 0 0]
theorem zgu (g : FuncId) (l : List Int) (p q : Nat) (t : z0m) (hg : Ct Tryz.prog g [.c (.ptr 1 0)] [z04 l p, z0W] (z9q t 0) [z04 l q, z0W] []) :
   Ct Tryz.prog 199 [.c (.ptr 0 0), .c (.fn (.func g) [] [.ptr 1 0])] [z04 l p, z0W] (z9q t 0) [z04 l q, z0W] [] := by
 refine z00 Tryz.func199 rfl rfl rfl rfl rfl (fun E hn hb => ?_)
 repeat (refine nst ?_)
 refine z0u rfl rfl rfl (by rw [hn]; rfl) rfl z32 ?_
 repeat (refine nst ?_)
 refine z0K (z0x (z15 (z1q l p) rfl rfl rfl (by exact vcs) ⟨.inr (.inr ⟨0, 0, _, _, rfl, rfl, rfl, rfl⟩), trivial⟩ rfl) rfl) (by rw [hn]; rfl) ?_
 repeat (refine nst ?_)
 refine z0n [0, 1] hg rfl rfl (by rw [hn]; rfl) rfl rfl (by trivial) ⟨rfl, ⟨rfl, rfl⟩, (by simp [z0i]), rfl⟩ ?_
 repeat (refine nst ?_)
 refine z0u rfl rfl rfl (by rw [hn]; rfl) rfl z32 ?_
 repeat (refine nst ?_)
 refine z0f rfl rfl rfl rfl rfl (by exact vcs) rfl rfl rfl (by rw [z0M]; rfl) (by rw [z1Y]; rfl) rfl rfl ?_
 repeat (refine nst ?_)
 refine z05 rfl (by simp) (fun h1 => ?_) (fun h1 => ?_)
 · simp at h1
 repeat (refine nst ?_)
 refine z0f rfl rfl rfl rfl rfl (by exact vcs) rfl rfl rfl (by rw [z0M]; rfl) (by rw [z1Y]; rfl) rfl rfl ?_
 repeat (refine nst ?_)
 exact rt1 []
theorem zf2 (g : FuncId) (l : List Int) (p q : Nat) (t : z0m) (e : Int) (he : e ≠ 0) (hq : p ≤ q) (hl : q ≤ 1000000) (hg : Ct Tryz.prog g [.c (.ptr 1 0)] [z04 l p, z0W] (z9q t e) [z04 l q, z0W] []) :
   Ct Tryz.prog 199 [.c (.ptr 0 0), .c (.fn (.func g) [] [.ptr 1 0])] [z04 l p, z0W] (z9q z5B e) [z04 l p, z0W] [] := by
 have hbk := z1x l q p hq hl
 refine z00 Tryz.func199 rfl rfl rfl rfl rfl (fun E hn hb => ?_)
 repeat (refine nst ?_)
 refine z0u rfl rfl rfl (by rw [hn]; rfl) rfl z32 ?_
 repeat (refine nst ?_)
 refine z0K (z0x (z15 (z1q l p) rfl rfl rfl (by exact vcs) ⟨.inr (.inr ⟨0, 0, _, _, rfl, rfl, rfl, rfl⟩), trivial⟩ rfl) rfl) (by rw [hn]; rfl) ?_
 repeat (refine nst ?_)
 refine z0n [0, 1] hg rfl rfl (by rw [hn]; rfl) rfl rfl (by trivial) ⟨rfl, ⟨rfl, rfl⟩, (by simp [z0i]), rfl⟩ ?_
 repeat (refine nst ?_)
 refine z0u rfl rfl rfl (by rw [hn]; rfl) rfl z32 ?_
 repeat (refine nst ?_)
 refine z0f rfl rfl rfl rfl rfl (by exact vcs) rfl rfl rfl (by rw [z0M]; rfl) (by rw [z1Y]; rfl) rfl rfl ?_
 repeat (refine nst ?_)
 refine z05 rfl (by simp) (fun h1 => ?_) (fun h1 => ?_)
 · repeat (refine nst ?_)
   refine z0u rfl rfl rfl (by rw [hn]; rfl) rfl z32 ?_
   repeat (refine nst ?_)
   refine z0n [0] hbk rfl rfl (by rw [hn]; rfl) rfl rfl (by trivial) ⟨rfl, rfl, (by simp [z0i]), rfl⟩ ?_
   repeat (refine nst ?_)
   refine z0f rfl rfl rfl rfl rfl (by exact vcs) rfl rfl rfl (by rw [z0M]; rfl) (by rw [z1Y]; rfl) rfl rfl ?_
   repeat (refine nst ?_)
   exact rt1 []
 · simp [he] at h1
theorem zhT (l : List Int) (p : Nat) (hp : p ≤ l.length) (hl : l.length ≤ 1000000) (hw : WfB l) : Ct Tryz.prog 200 [.c (.ptr 1 0)] [z04 l p, z0W] (z9q (z2W l p).1 (z2W l p).2.2) [z04 l (z2W l p).2.1, z0W] [] := by
 generalize hRR : z2W l p = R
 unfold z2W at hRR
 refine z00 Tryz.func200 rfl rfl rfl rfl rfl (fun E hn hb => ?_)
 repeat (refine nst ?_)
 refine z0u rfl rfl rfl (by rw [hn]; rfl) rfl z32 ?_
 repeat (refine nst ?_)
 by_cases hpe : p < l.length
 · rw [if_pos hpe] at hRR
   have hd := z4T hw p
   have hby := z7C l p hpe hl
   have hnm := zf1 l (p + 1) (by omega) hl hw
   generalize l.getD p 0 = d at *
   have ha := zo4 hd
   have hab := zmn hd
   have e6 : d / 2 ^ min (Int.toNat 6) IntKind.u8.bits = d / 64 := by
     have : min (Int.toNat 6) IntKind.u8.bits = 6 := by decide
     rw [this]; rfl
   refine z0n [0] hby rfl rfl (by rw [hn]; rfl) rfl rfl (by trivial) ⟨rfl, rfl, (by simp [z0i]), rfl⟩ ?_
   repeat (refine nst ?_)
   refine z05 rfl (by simp) (fun h1 => ?_) (fun h1 => ?_)
   · simp at h1
   repeat (refine nst ?_)
   refine z0u rfl rfl rfl (by rw [hn]; rfl) rfl z32 ?_
   repeat (refine nst ?_)
   refine z0f rfl rfl rfl rfl rfl (by exact vcs) rfl rfl rfl (by rw [z0M]; rfl) (by rw [z1Y]; rfl) rfl rfl ?_
   repeat (refine nst ?_)
   rw [ha, hab, e6]
   generalize z0Z l 3 (p + 1) 0 = N at *
   generalize decide (d / 32 % 2 = 1) = mk at *
   refine z05 rfl (by simp) (fun h2 => ?_) (fun h2 => ?_)
   · have h2' : d % 32 = 31 := by simpa using h2
     rw [if_pos h2'] at hRR
     subst hRR
     repeat (refine nst ?_)
     refine z0n [0] hnm rfl rfl (by rw [hn]; rfl) rfl rfl (by trivial) ⟨rfl, rfl, (by simp [z0i]), rfl⟩ ?_
     repeat (refine nst ?_)
     refine z0f rfl rfl rfl rfl rfl (by exact vcs) rfl rfl rfl (by rw [z22]; rfl) (by rw [z4Q]; rfl) rfl rfl ?_
     repeat (refine nst ?_)
     refine z0f rfl rfl rfl rfl rfl (by exact vcs) rfl rfl rfl (by rw [z0M]; rfl) (by rw [z1Y]; rfl) rfl rfl ?_
     repeat (refine nst ?_)
     exact rt1 []
   · have h2' : ¬ d % 32 = 31 := by simpa using h2
     rw [if_neg h2'] at hRR
     subst hRR
     repeat (refine nst ?_)
     refine z0f rfl rfl rfl rfl rfl (by exact vcs) rfl rfl rfl (by rw [z0M]; rfl) (by rw [z1Y]; rfl) rfl rfl ?_
     repeat (refine nst ?_)
     exact rt1 []
 · rw [if_neg hpe] at hRR
   subst hRR
   have e : p = l.length := by omega
   subst e
   have hby := z6u l hl
   refine z0n [0] hby rfl rfl (by rw [hn]; rfl) rfl rfl (by trivial) ⟨rfl, rfl, (by simp [z0i]), rfl⟩ ?_
   repeat (refine nst ?_)
   refine z05 rfl (by simp) (fun h1 => ?_) (fun h1 => ?_)
   · repeat (refine nst ?_)
     refine z0f rfl rfl rfl rfl rfl (by exact vcs) rfl rfl rfl (by rw [z0M]; rfl) (by rw [z1Y]; rfl) rfl rfl ?_
     repeat (refine nst ?_)
     exact rt1 []
   · simp at h1
theorem zdI (l : List Int) (p : Nat) (hp : p ≤ l.length) (hl : l.length ≤ 1000000) (hw : WfB l) : Ct Tryz.prog 175 [.c (.ptr 0 0)] [z04 l p] (z9q (z0O l p).1 (z0O l p).2.2) [z04 l (z0O l p).2.1] [] := by
 have hr := zhT l p hp hl hw
 have hle := zcu l p hp
 generalize hRR : z0O l p = R
 unfold z0O at hRR
 by_cases he : (z2W l p).2.2 = 0
 · rw [z2z _ _ _ he] at hRR
   rw [hRR] at hr he hle
   rw [he] at hr
   have hk := zgu 200 l p R.2.1 R.1 hr
   rw [he]
   refine z00 Tryz.func175 rfl rfl rfl rfl rfl (fun E hn hb => ?_)
   repeat (refine nst ?_)
   refine z16 rfl rfl rfl (by rw [hn]; rfl) rfl (by exact vcs) rfl rfl ?_
   repeat (refine nst ?_)
   refine z0u rfl rfl rfl (by rw [hn]; rfl) rfl z32 ?_
   repeat (refine nst ?_)
   refine z0n [0, 65] hk rfl rfl (by rw [hn]; rfl) rfl rfl (by trivial) ⟨rfl, ⟨rfl, rfl⟩, (by simp [z0i]), rfl⟩ ?_
   repeat (refine nst ?_)
   refine z0f rfl rfl rfl rfl rfl (by exact vcs) rfl rfl rfl (by rw [z0M]; rfl) (by rw [z1Y]; rfl) rfl rfl ?_
   repeat (refine nst ?_)
   exact rt1 []
 · rw [z1e _ _ _ he] at hRR
   subst hRR
   generalize z2W l p = R at *
   have hk := zf2 200 l p R.2.1 R.1 R.2.2 he hle.1 (by omega) hr
   refine z00 Tryz.func175 rfl rfl rfl rfl rfl (fun E hn hb => ?_)
   repeat (refine nst ?_)
   refine z16 rfl rfl rfl (by rw [hn]; rfl) rfl (by exact vcs) rfl rfl ?_
   repeat (refine nst ?_)
   refine z0u rfl rfl rfl (by rw [hn]; rfl) rfl z32 ?_
   repeat (refine nst ?_)
   refine z0n [0, 65] hk rfl rfl (by rw [hn]; rfl) rfl rfl (by trivial) ⟨rfl, ⟨rfl, rfl⟩, (by simp [z0i]), rfl⟩ ?_
   repeat (refine nst ?_)
   refine z0f rfl rfl rfl rfl rfl (by exact vcs) rfl rfl rfl (by rw [z0M]; rfl) (by rw [z1Y]; rfl) rfl rfl ?_
   repeat (refine nst ?_)
   exact rt1 []
end Go.Proofs.YtaagjnlkinojcaaGreat

/-
  Chapter 02: tags that are read. The conditions: rows of at most a million bytes.
-/
import Derived.Test.YtaagjnlkinojcaaGreatW16
namespace Go.Proofs.YtaagjnlkinojcaaGreat
set_option linter.unusedSimpArgs false
set_option linter.unusedVariables false
open Go.Sx
set_option maxRecDepth 10000
def z0R (b : List Int) : Nat → Nat → Int → Int × Nat × Int
 | 0, p, _ => if p < b.length then (0, p + 1, 4) else (0, p, 3)
 | k + 1, p, n =>
   if p < b.length then
     if k = 2 ∧ b.getD p 0 = 128 then (0, p + 1, 4)
     else if b.getD p 0 < 128 then
       if 128 * n + b.getD p 0 % 128 < 31 then (0, p + 1, 4) else (128 * n + b.getD p 0 % 128, p + 1, 0)
     else z0R b k (p + 1) (128 * n + b.getD p 0 % 128)
   else (0, p, 3)
theorem z8T (b : List Int) : ∀ (k p : Nat) (n : Int), p ≤ b.length → p ≤ (z0R b k p n).2.1 ∧ (z0R b k p n).2.1 ≤ b.length
 | 0, p, n, h => by
   unfold z0R
   split <;> dsimp only <;> omega
 | k + 1, p, n, h => by
   unfold z0R
   split
   · split
     · dsimp only; omega
     · split
       · split <;> dsimp only <;> omega
       · have := z8T b k (p + 1) (128 * n + b.getD p 0 % 128) (by omega)
         omega
   · dsimp only; omega
theorem zaY (b : List Int) (k p : Nat) (n : Int) (h : ¬ p < b.length) : z0R b k p n = (0, p, 3) := by
 cases k <;> simp only [z0R, h, if_false]
abbrev z0q : Type := Int × Int × Bool
def z2H : z0q := (0, 0, false)
def z0S {α : Type} (z : α) (p : Nat) (r : α × Nat × Int) : α × Nat × Int := if r.2.2 = 0 then r else (z, p, r.2.2)
theorem z2I {α : Type} (z : α) (p : Nat) (r : α × Nat × Int) (h : r.2.2 = 0) : z0S z p r = r := if_pos h
theorem z32 {α : Type} (z : α) (p : Nat) (r : α × Nat × Int) (h : ¬ r.2.2 = 0) : z0S z p r = (z, p, r.2.2) := if_neg h
theorem z59 {α : Type} (z : α) (p n : Nat) (r : α × Nat × Int) (h : p ≤ r.2.1 ∧ r.2.1 ≤ n) : p ≤ (z0S z p r).2.1 ∧ (z0S z p r).2.1 ≤ n := by
 unfold z0S
 split
 · exact h
 · dsimp only; omega
def z2l (b : List Int) (p : Nat) : z0q × Nat × Int :=
 if p < b.length then
   if b.getD p 0 % 32 = 31 then ((b.getD p 0 / 64, (z0R b 3 (p + 1) 0).1, decide (b.getD p 0 / 32 % 2 = 1)), (z0R b 3 (p + 1) 0).2.1, (z0R b 3 (p + 1) 0).2.2)
   else ((b.getD p 0 / 64, b.getD p 0 % 32, decide (b.getD p 0 / 32 % 2 = 1)), p + 1, 0)
 else (z2H, p, 3)
def z0H (b : List Int) (p : Nat) : z0q × Nat × Int := z0S z2H p (z2l b p)
theorem zbT (b : List Int) (p : Nat) (h : p ≤ b.length) : p ≤ (z2l b p).2.1 ∧ (z2l b p).2.1 ≤ b.length := by
 have := z8T b 3 (p + 1) 0
 unfold z2l
 split
 · split
   · dsimp only; omega
   · dsimp only; omega
 · dsimp only; omega
theorem z7j (b : List Int) (p : Nat) (h : p ≤ b.length) : p ≤ (z0H b p).2.1 ∧ (z0H b p).2.1 ≤ b.length := z59 _ _ _ _ (zbT b p h)
def z29 (b : List Int) (p n : Nat) : Int × Nat × Int :=
 if b.length < p + n then (0, p, 3)
 else if b.getD p 0 = 0 ∨ z0x 0 ((b.drop p).take n) < 128 then (0, p + n, 5)
 else if 16777216 < z0x 0 ((b.drop p).take n) then (0, p + n, 2)
 else (z0x 0 ((b.drop p).take n), p + n, 0)
def z2J (b : List Int) (p : Nat) : Int × Nat × Int :=
 if p < b.length then
   if b.getD p 0 < 128 then (b.getD p 0, p + 1, 0)
   else if b.getD p 0 = 128 ∨ 132 < b.getD p 0 then (0, p + 1, 5)
   else z29 b (p + 1) (b.getD p 0 % 128).toNat
 else (0, p, 3)
def lenP (b : List Int) (p : Nat) : Int × Nat × Int := z0S 0 p (z2J b p)
theorem zg0 (b : List Int) (p n : Nat) (h : p ≤ b.length) : p ≤ (z29 b p n).2.1 ∧ (z29 b p n).2.1 ≤ b.length := by
 unfold z29
 split
 · dsimp only; omega
 · split
   · dsimp only; omega
   · split <;> dsimp only <;> omega
theorem zbU (b : List Int) (p : Nat) (h : p ≤ b.length) : p ≤ (z2J b p).2.1 ∧ (z2J b p).2.1 ≤ b.length := by
 unfold z2J
 split
 · split
   · dsimp only; omega
   · split
     · dsimp only; omega
     · have := zg0 b (p + 1) (b.getD p 0 % 128).toNat (by omega)
       omega
 · dsimp only; omega
theorem zbV (b : List Int) (p : Nat) (h : p ≤ b.length) : p ≤ (lenP b p).2.1 ∧ (lenP b p).2.1 ≤ b.length := z59 _ _ _ _ (zbU b p h)
def z2m (b : List Int) (p : Nat) : (z0q × Int) × Nat × Int :=
 if (z0H b p).2.2 = 0 then (((z0H b p).1, (lenP b (z0H b p).2.1).1), (lenP b (z0H b p).2.1).2.1, (lenP b (z0H b p).2.1).2.2)
 else ((z2H, 0), p, (z0H b p).2.2)
def z09 (b : List Int) (p : Nat) : (z0q × Int) × Nat × Int := z0S (z2H, 0) p (z2m b p)
theorem zbW (b : List Int) (p : Nat) (h : p ≤ b.length) : p ≤ (z2m b p).2.1 ∧ (z2m b p).2.1 ≤ b.length := by
 have h1 := z7j b p h
 have h2 := zbV b (z0H b p).2.1 h1.2
 unfold z2m
 split
 · dsimp only; omega
 · dsimp only; omega
theorem z1g (b : List Int) (p : Nat) (h : p ≤ b.length) : p ≤ (z09 b p).2.1 ∧ (z09 b p).2.1 ≤ b.length := z59 _ _ _ _ (zbW b p h)
def z1y (b : List Int) (p : Nat) (t : z0q) : List Int × Nat × Int :=
 if (z09 b p).2.2 = 0 then
   if (z09 b p).1.1 = t then
     if (b.length : Int) - ((z09 b p).2.1 : Int) < (z09 b p).1.2 then ([], (z09 b p).2.1, 3)
     else ((b.drop (z09 b p).2.1).take (z09 b p).1.2.toNat, (z09 b p).2.1 + (z09 b p).1.2.toNat, 0)
   else ([], (z09 b p).2.1, 4)
 else ([], p, (z09 b p).2.2)
def z0y (b : List Int) (p : Nat) (t : z0q) : List Int × Nat × Int := z0S [] p (z1y b p t)
theorem zbX (b : List Int) (p : Nat) (t : z0q) (h : p ≤ b.length) : p ≤ (z1y b p t).2.1 ∧ (z1y b p t).2.1 ≤ b.length := by
 have h1 := z1g b p h
 unfold z1y
 split
 · split
   · split <;> dsimp only <;> omega
   · dsimp only; omega
 · dsimp only; omega
theorem z49 (b : List Int) (p : Nat) (t : z0q) (h : p ≤ b.length) : p ≤ (z0y b p t).2.1 ∧ (z0y b p t).2.1 ≤ b.length := z59 _ _ _ _ (zbX b p t h)
theorem zg1 (b : List Int) (p : Nat) (hw : ∀ x ∈ b, 0 ≤ x ∧ x < 256) : 0 ≤ (lenP b p).1 ∧ (lenP b p).1 ≤ 16777216 := by
 unfold lenP z0S
 split
 · unfold z2J
   split
   · rename_i h
     have hx : 0 ≤ b.getD p 0 ∧ b.getD p 0 < 256 := by
       rw [List.getD_eq_getElem?_getD, List.getElem?_eq_getElem h]
       exact hw _ (List.getElem_mem h)
     split
     · dsimp only; omega
     · split
       · dsimp only; omega
       · unfold z29
         split
         · dsimp only; omega
         · split
           · dsimp only; omega
           · split <;> dsimp only <;> omega
   · dsimp only; omega
 · dsimp only; omega
theorem z1Z (b : List Int) (p : Nat) (hw : ∀ x ∈ b, 0 ≤ x ∧ x < 256) : 0 ≤ (z09 b p).1.2 ∧ (z09 b p).1.2 ≤ 16777216 := by
 have := zg1 b (z0H b p).2.1 hw
 unfold z09 z0S
 split
 · unfold z2m
   split
   · exact this
   · dsimp only; omega
 · dsimp only; omega
theorem z4K {l : List Int} (hw : WfB l) (p : Nat) : 0 ≤ l.getD p 0 ∧ l.getD p 0 < 256 := by
 by_cases h : p < l.length
 · rw [List.getD_eq_getElem?_getD, List.getElem?_eq_getElem h]
   exact hw _ (List.getElem_mem h)
 · rw [List.getD_eq_getElem?_getD, List.getElem?_eq_none (by omega)]
   exact ⟨by decide, by decide⟩
theorem zaZ {d : Int} (h : 0 ≤ d ∧ d < 256) : IntKind.u8.wrap (BitVec.ofInt IntKind.u8.bits d &&& BitVec.ofInt IntKind.u8.bits 127).toNat = d % 128 := by
 have key : ∀ k : Fin 256, IntKind.u8.wrap (BitVec.ofInt IntKind.u8.bits ((k.val : Nat) : Int) &&& BitVec.ofInt IntKind.u8.bits 127).toNat = ((k.val : Nat) : Int) % 128 := by decide +kernel
 have := key ⟨d.toNat, by omega⟩
 simpa [show ((d.toNat : Nat) : Int) = d by omega] using this
theorem znJ {d : Int} (h : 0 ≤ d ∧ d < 256) : IntKind.u8.wrap (BitVec.ofInt IntKind.u8.bits d &&& BitVec.ofInt IntKind.u8.bits 31).toNat = d % 32 := by
 have key : ∀ k : Fin 256, IntKind.u8.wrap (BitVec.ofInt IntKind.u8.bits ((k.val : Nat) : Int) &&& BitVec.ofInt IntKind.u8.bits 31).toNat = ((k.val : Nat) : Int) % 32 := by decide +kernel
 have := key ⟨d.toNat, by omega⟩
 simpa [show ((d.toNat : Nat) : Int) = d by omega] using this
theorem zlZ {d : Int} (h : 0 ≤ d ∧ d < 256) : (IntKind.u8.wrap (BitVec.ofInt IntKind.u8.bits d &&& BitVec.ofInt IntKind.u8.bits 32).toNat != 0) = decide (d / 32 % 2 = 1) := by
 have key : ∀ k : Fin 256, (IntKind.u8.wrap (BitVec.ofInt IntKind.u8.bits ((k.val : Nat) : Int) &&& BitVec.ofInt IntKind.u8.bits 32).toNat != 0) = decide (((k.val : Nat) : Int) / 32 % 2 = 1) := by decide +kernel
 have := key ⟨d.toNat, by omega⟩
 simpa [show ((d.toNat : Nat) : Int) = d by omega] using this
theorem zeq (s : Nat) (hs : s ≤ 8) (c x : Int) (hc : 0 ≤ c ∧ c < 1099511627776) (hx : 0 ≤ x ∧ x < 2 ^ s) : IntKind.i64.wrap (BitVec.ofInt IntKind.i64.bits (2 ^ s * c) ||| BitVec.ofInt IntKind.i64.bits x).toNat = 2 ^ s * c + x := by
 obtain ⟨c, rfl⟩ : ∃ m : Nat, c = m := ⟨c.toNat, by omega⟩
 obtain ⟨x, rfl⟩ : ∃ m : Nat, x = m := ⟨x.toNat, by omega⟩
 have hp : (2 : Nat) ^ s ≤ 256 := Nat.pow_le_pow_right (by decide) hs
 have hx2 : x < 2 ^ s := by
   have h2 : ((2 ^ s : Nat) : Int) = (2 : Int) ^ s := by simp
   have := hx.2
   rw [← h2] at this
   omega
 have h1 : 2 ^ s * c + x = 2 ^ s * c ||| x := Nat.two_pow_add_eq_or_of_lt (i := s) hx2 c
 have hb : 2 ^ s * c ≤ 256 * c := Nat.mul_le_mul_right c hp
 have e0 : (2 : Int) ^ s * (c : Int) = ((2 ^ s * c : Nat) : Int) := by simp
 rw [e0]
 generalize 2 ^ s * c = m at *
 have e1 : (BitVec.ofInt IntKind.i64.bits (m : Int)).toNat = m := by
   rw [BitVec.toNat_ofInt]; simp only [IntKind.bits]; omega
 have e2 : (BitVec.ofInt IntKind.i64.bits (x : Int)).toNat = x := by
   rw [BitVec.toNat_ofInt]; simp only [IntKind.bits]; omega
 rw [BitVec.toNat_or, e1, e2, ← h1]
 simp only [IntKind.wrap, IntKind.signed, IntKind.bits]
 simp
 omega
theorem or7 (c x : Int) (hc : 0 ≤ c ∧ c < 1099511627776) (hx : 0 ≤ x ∧ x < 128) : IntKind.i64.wrap (BitVec.ofInt IntKind.i64.bits (c * 2 ^ min (Int.toNat 7) IntKind.i64.bits) ||| BitVec.ofInt IntKind.i64.bits x).toNat = 128 * c + x := by
 have e : c * 2 ^ min (Int.toNat 7) IntKind.i64.bits = 2 ^ 7 * c := by
   have : min (Int.toNat 7) IntKind.i64.bits = 7 := by decide
   rw [this, Int.mul_comm]
 rw [e]
 exact zeq 7 (by decide) c x hc hx
theorem ztG (c x : Int) (hc : 0 ≤ c ∧ c < 1099511627776) (hx : 0 ≤ x ∧ x < 256) : IntKind.i64.wrap (BitVec.ofInt IntKind.i64.bits (c * 2 ^ min (Int.toNat 8) IntKind.i64.bits) ||| BitVec.ofInt IntKind.i64.bits x).toNat = 256 * c + x := by
 have e : c * 2 ^ min (Int.toNat 8) IntKind.i64.bits = 2 ^ 8 * c := by
   have : min (Int.toNat 8) IntKind.i64.bits = 8 := by decide
   rw [this, Int.mul_comm]
 rw [e]
 exact zeq 8 (by decide) c x hc hx
theorem z5p (b : List Int) (i p : Nat) (n : Int) (hi : i < 3) (hp : p < b.length) : z0R b (3 - i) p n = if i = 0 ∧ b.getD p 0 = 128 then (0, p + 1, 4) else if b.getD p 0 < 128 then
       if 128 * n + b.getD p 0 % 128 < 31 then (0, p + 1, 4) else (128 * n + b.getD p 0 % 128, p + 1, 0)
     else z0R b (3 - (i + 1)) (p + 1) (128 * n + b.getD p 0 % 128) := by
 have e : 3 - i = (2 - i) + 1 := by omega
 have e2 : 3 - (i + 1) = 2 - i := by omega
 have e3 : (2 - i = 2) ↔ i = 0 := by omega
 rw [e, e2]
 simp only [z0R, hp, if_true, e3]
abbrev zb0 (r : Int × Nat × Int) : Av := .tup [lv (.int .i64 r.1), lv (.int .i64 r.2.2)]
structure NS where
 i : Nat
 p : Nat
 n : Int
def NS.ok (l : List Int) (p : Nat) (s : NS) : Prop := s.i ≤ 3 ∧ s.p ≤ l.length ∧ z0R l (3 - s.i) s.p s.n = z0R l 3 p 0 ∧ 0 ≤ s.n ∧ (s.i = 0 ∧ s.n < 1 ∨ s.i = 1 ∧ s.n < 128 ∨ s.i = 2 ∧ s.n < 16384 ∨ s.i = 3 ∧ s.n < 2097152)
set_option maxHeartbeats 4000000 in
theorem zer (l : List Int) (p : Nat) (hp : p ≤ l.length) (hl : l.length ≤ 16000000) (hw : WfB l) : Ct Tryz.prog 202 [.c (.ptr 0 0)] [z06 l p] (zb0 (z0R l 3 p 0)) [z06 l (z0R l 3 p 0).2.1] [] := by
 have h0 : NS.ok l p ⟨0, p, 0⟩ := ⟨by simp, hp, rfl, by simp, by simp⟩
 refine z00 Tryz.func202 rfl rfl rfl rfl rfl (fun E hn hb => ?_)
 repeat (refine nst ?_)
 refine z0d (St.le_of (l := [(0, .c (.ptr 0 0)), (4, lv (.int .i64 0)), (8, lv (.int .i64 ((0 : Nat) : Int)))]) (h := [(0, z06 l p)]) (by refine ⟨?_, ?_⟩ <;> (repeat' (first | exact trivial | exact rfl | refine ⟨?_, ?_⟩)) <;> first | exact rfl | (simp; done) | skip)) ?_
 refine z0l (ι := {s : NS // s.ok l p}) (fun s => St.of [(0, .c (.ptr 0 0)), (4, lv (.int .i64 s.1.n)), (8, lv (.int .i64 (s.1.i : Int)))] [(0, z06 l s.1.p)]) (fun s => 3 - s.1.i) (fun s => ?_) ⟨⟨0, p, 0⟩, h0⟩
 obtain ⟨⟨i, q, n⟩, hi, hq, hR, hn0, hn1⟩ := s
 dsimp only at hi hq hR hn0 hn1 ⊢
 generalize hRR : z0R l 3 p 0 = R at hR ⊢
 repeat (refine nst ?_)
 refine z04 rfl (by simp) (fun hc => ?_) (fun hc => ?_)
 · repeat (refine nst ?_)
   by_cases hqe : q < l.length
   · have hd := z4K hw q
     have hby := z7k l q hqe hl
     refine z0r [0] hby rfl rfl (by rw [hn]; rfl) rfl rfl (by trivial) ⟨rfl, rfl, (by simp [z0f]), rfl⟩ ?_
     repeat (refine nst ?_)
     refine z04 rfl (by simp) (fun h1 => ?_) (fun h1 => ?_)
     · simp at h1
     repeat (refine nst ?_)
     generalize hdd : l.getD q 0 = d at *
     refine z04 rfl (by simp) (fun h2 => ?_) (fun h2 => ?_)
     · have h2' : i = 0 ∧ d = 128 := by
         simpa using h2
       rw [z5p l i q n (by omega) hqe, hdd, if_pos h2'] at hR
       subst hR
       repeat (refine nst ?_)
       refine z04 rfl (by simp) (fun h3 => ?_) (fun h3 => ?_)
       · repeat (refine nst ?_)
         exact rt1 []
       · exact absurd (h2.symm.trans h3) (by decide)
     · have h2' : ¬ (i = 0 ∧ d = 128) := by
         rintro ⟨rfl, rfl⟩
         simp at h2
       clear h2
       repeat (refine nst ?_)
       refine z04 rfl (by simp) (fun h3 => ?_) (fun h3 => ?_)
       · have h3' : i = 3 := by simp at h3; omega
         subst h3'
         simp only [Nat.sub_self, z0R, hqe, if_true] at hR
         subst hR
         repeat (refine nst ?_)
         exact rt1 []
       · have h3' : i < 3 := by simp at h3; omega
         rw [z5p l i q n h3' hqe, hdd, if_neg h2'] at hR
         have ha := zaZ hd
         have ho := or7 n (d % 128) ⟨hn0, by omega⟩ (by omega)
         repeat (refine nst ?_)
         rw [ha, ho]
         generalize hmm : 128 * n + d % 128 = m at *
         refine z04 rfl (by simp) (fun h4 => ?_) (fun h4 => ?_)
         · have h4' : d < 128 := by simpa using h4
           rw [if_pos h4'] at hR
           repeat (refine nst ?_)
           refine z04 rfl (by simp) (fun h5 => ?_) (fun h5 => ?_)
           · have h5' : m < 31 := by simpa using h5
             rw [if_pos h5'] at hR
             subst hR
             repeat (refine nst ?_)
             exact rt1 []
           · have h5' : ¬ m < 31 := by simpa using h5
             rw [if_neg h5'] at hR
             subst hR
             repeat (refine nst ?_)
             exact rt1 []
         · have h4' : ¬ d < 128 := by simpa using h4
           rw [if_neg h4'] at hR
           repeat (refine nst ?_)
           refine z0a ⟨⟨i + 1, q + 1, m⟩, ⟨by dsimp only; omega, by dsimp only; omega, hR.trans hRR.symm, by dsimp only; omega, by dsimp only; omega⟩⟩ (by dsimp only; omega) (St.le_of ⟨⟨rfl, rfl, rfl⟩, rfl⟩)
   · have e : q = l.length := by omega
     subst e
     rw [zaY l _ _ _ hqe] at hR
     subst hR
     have hby := z6k l hl
     refine z0r [0] hby rfl rfl (by rw [hn]; rfl) rfl rfl (by trivial) ⟨rfl, rfl, (by simp [z0f]), rfl⟩ ?_
     repeat (refine nst ?_)
     refine z04 rfl (by simp) (fun h1 => ?_) (fun h1 => ?_)
     · repeat (refine nst ?_)
       exact rt1 []
     · simp at h1
 · simp at hc; omega

abbrev z1W (t : z0q) : Av := .agg [.lf (.v (.int .i64 t.1)), .lf (.v (.int .i64 t.2.1)), .lf (.v (.bool t.2.2))]
abbrev z8U (t : z0q) (e : Int) : Av := .tup [z1W t, lv (.int .i64 e)]
abbrev z12 : Blk := .cells [.ptr 0 0]
theorem zg2 (g : FuncId) (l : List Int) (p q : Nat) (t : z0q) (hg : Ct Tryz.prog g [.c (.ptr 1 0)] [z06 l p, z12] (z8U t 0) [z06 l q, z12] []) :
   Ct Tryz.prog 199 [.c (.ptr 0 0), .c (.fn (.func g) [] [.ptr 1 0])] [z06 l p, z12] (z8U t 0) [z06 l q, z12] [] := by
 refine z00 Tryz.func199 rfl rfl rfl rfl rfl (fun E hn hb => ?_)
 repeat (refine nst ?_)
 refine z0w rfl rfl rfl (by rw [hn]; rfl) rfl z2N ?_
 repeat (refine nst ?_)
 refine z0W (z0A (z14 (z1P l p) rfl rfl rfl (by exact vcs) ⟨.inr (.inr ⟨0, 0, _, _, rfl, rfl, rfl, rfl⟩), trivial⟩ rfl) rfl) (by rw [hn]; rfl) ?_
 repeat (refine nst ?_)
 refine z0r [0, 1] hg rfl rfl (by rw [hn]; rfl) rfl rfl (by trivial) ⟨rfl, ⟨rfl, rfl⟩, (by simp [z0f]), rfl⟩ ?_
 repeat (refine nst ?_)
 refine z0w rfl rfl rfl (by rw [hn]; rfl) rfl z2N ?_
 repeat (refine nst ?_)
 refine z0h rfl rfl rfl rfl rfl (by exact vcs) rfl rfl rfl (by rw [z0T]; rfl) (by rw [z1Q]; rfl) rfl rfl ?_
 repeat (refine nst ?_)
 refine z04 rfl (by simp) (fun h1 => ?_) (fun h1 => ?_)
 · simp at h1
 repeat (refine nst ?_)
 refine z0h rfl rfl rfl rfl rfl (by exact vcs) rfl rfl rfl (by rw [z0T]; rfl) (by rw [z1Q]; rfl) rfl rfl ?_
 repeat (refine nst ?_)
 exact rt1 []
theorem zes (g : FuncId) (l : List Int) (p q : Nat) (t : z0q) (e : Int) (he : e ≠ 0) (hq : p ≤ q) (hl : q ≤ 16000000) (hg : Ct Tryz.prog g [.c (.ptr 1 0)] [z06 l p, z12] (z8U t e) [z06 l q, z12] []) :
   Ct Tryz.prog 199 [.c (.ptr 0 0), .c (.fn (.func g) [] [.ptr 1 0])] [z06 l p, z12] (z8U z2H e) [z06 l p, z12] [] := by
 have hbk := z22 l q p hq hl
 refine z00 Tryz.func199 rfl rfl rfl rfl rfl (fun E hn hb => ?_)
 repeat (refine nst ?_)
 refine z0w rfl rfl rfl (by rw [hn]; rfl) rfl z2N ?_
 repeat (refine nst ?_)
 refine z0W (z0A (z14 (z1P l p) rfl rfl rfl (by exact vcs) ⟨.inr (.inr ⟨0, 0, _, _, rfl, rfl, rfl, rfl⟩), trivial⟩ rfl) rfl) (by rw [hn]; rfl) ?_
 repeat (refine nst ?_)
 refine z0r [0, 1] hg rfl rfl (by rw [hn]; rfl) rfl rfl (by trivial) ⟨rfl, ⟨rfl, rfl⟩, (by simp [z0f]), rfl⟩ ?_
 repeat (refine nst ?_)
 refine z0w rfl rfl rfl (by rw [hn]; rfl) rfl z2N ?_
 repeat (refine nst ?_)
 refine z0h rfl rfl rfl rfl rfl (by exact vcs) rfl rfl rfl (by rw [z0T]; rfl) (by rw [z1Q]; rfl) rfl rfl ?_
 repeat (refine nst ?_)
 refine z04 rfl (by simp) (fun h1 => ?_) (fun h1 => ?_)
 · repeat (refine nst ?_)
   refine z0w rfl rfl rfl (by rw [hn]; rfl) rfl z2N ?_
   repeat (refine nst ?_)
   refine z0r [0] hbk rfl rfl (by rw [hn]; rfl) rfl rfl (by trivial) ⟨rfl, rfl, (by simp [z0f]), rfl⟩ ?_
   repeat (refine nst ?_)
   refine z0h rfl rfl rfl rfl rfl (by exact vcs) rfl rfl rfl (by rw [z0T]; rfl) (by rw [z1Q]; rfl) rfl rfl ?_
   repeat (refine nst ?_)
   exact rt1 []
 · simp [he] at h1
theorem zhu (l : List Int) (p : Nat) (hp : p ≤ l.length) (hl : l.length ≤ 16000000) (hw : WfB l) : Ct Tryz.prog 200 [.c (.ptr 1 0)] [z06 l p, z12] (z8U (z2l l p).1 (z2l l p).2.2) [z06 l (z2l l p).2.1, z12] [] := by
 generalize hRR : z2l l p = R
 unfold z2l at hRR
 refine z00 Tryz.func200 rfl rfl rfl rfl rfl (fun E hn hb => ?_)
 repeat (refine nst ?_)
 refine z0w rfl rfl rfl (by rw [hn]; rfl) rfl z2N ?_
 repeat (refine nst ?_)
 by_cases hpe : p < l.length
 · rw [if_pos hpe] at hRR
   have hd := z4K hw p
   have hby := z7k l p hpe hl
   have hnm := zer l (p + 1) (by omega) hl hw
   generalize l.getD p 0 = d at *
   have ha := znJ hd
   have hab := zlZ hd
   have e6 : d / 2 ^ min (Int.toNat 6) IntKind.u8.bits = d / 64 := by
     have : min (Int.toNat 6) IntKind.u8.bits = 6 := by decide
     rw [this]; rfl
   refine z0r [0] hby rfl rfl (by rw [hn]; rfl) rfl rfl (by trivial) ⟨rfl, rfl, (by simp [z0f]), rfl⟩ ?_
   repeat (refine nst ?_)
   refine z04 rfl (by simp) (fun h1 => ?_) (fun h1 => ?_)
   · simp at h1
   repeat (refine nst ?_)
   refine z0w rfl rfl rfl (by rw [hn]; rfl) rfl z2N ?_
   repeat (refine nst ?_)
   refine z0h rfl rfl rfl rfl rfl (by exact vcs) rfl rfl rfl (by rw [z0T]; rfl) (by rw [z1Q]; rfl) rfl rfl ?_
   repeat (refine nst ?_)
   rw [ha, hab, e6]
   generalize z0R l 3 (p + 1) 0 = N at *
   generalize decide (d / 32 % 2 = 1) = mk at *
   refine z04 rfl (by simp) (fun h2 => ?_) (fun h2 => ?_)
   · have h2' : d % 32 = 31 := by simpa using h2
     rw [if_pos h2'] at hRR
     subst hRR
     repeat (refine nst ?_)
     refine z0r [0] hnm rfl rfl (by rw [hn]; rfl) rfl rfl (by trivial) ⟨rfl, rfl, (by simp [z0f]), rfl⟩ ?_
     repeat (refine nst ?_)
     refine z0h rfl rfl rfl rfl rfl (by exact vcs) rfl rfl rfl (by rw [z2o]; rfl) (by rw [z4I]; rfl) rfl rfl ?_
     repeat (refine nst ?_)
     refine z0h rfl rfl rfl rfl rfl (by exact vcs) rfl rfl rfl (by rw [z0T]; rfl) (by rw [z1Q]; rfl) rfl rfl ?_
     repeat (refine nst ?_)
     exact rt1 []
   · have h2' : ¬ d % 32 = 31 := by simpa using h2
     rw [if_neg h2'] at hRR
     subst hRR
     repeat (refine nst ?_)
     refine z0h rfl rfl rfl rfl rfl (by exact vcs) rfl rfl rfl (by rw [z0T]; rfl) (by rw [z1Q]; rfl) rfl rfl ?_
     repeat (refine nst ?_)
     exact rt1 []
 · rw [if_neg hpe] at hRR
   subst hRR
   have e : p = l.length := by omega
   subst e
   have hby := z6k l hl
   refine z0r [0] hby rfl rfl (by rw [hn]; rfl) rfl rfl (by trivial) ⟨rfl, rfl, (by simp [z0f]), rfl⟩ ?_
   repeat (refine nst ?_)
   refine z04 rfl (by simp) (fun h1 => ?_) (fun h1 => ?_)
   · repeat (refine nst ?_)
     refine z0h rfl rfl rfl rfl rfl (by exact vcs) rfl rfl rfl (by rw [z0T]; rfl) (by rw [z1Q]; rfl) rfl rfl ?_
     repeat (refine nst ?_)
     exact rt1 []
   · simp at h1
theorem zd7 (l : List Int) (p : Nat) (hp : p ≤ l.length) (hl : l.length ≤ 16000000) (hw : WfB l) : Ct Tryz.prog 175 [.c (.ptr 0 0)] [z06 l p] (z8U (z0H l p).1 (z0H l p).2.2) [z06 l (z0H l p).2.1] [] := by
 have hr := zhu l p hp hl hw
 have hle := zbT l p hp
 generalize hRR : z0H l p = R
 unfold z0H at hRR
 by_cases he : (z2l l p).2.2 = 0
 · rw [z2I _ _ _ he] at hRR
   rw [hRR] at hr he hle
   rw [he] at hr
   have hk := zg2 200 l p R.2.1 R.1 hr
   rw [he]
   refine z00 Tryz.func175 rfl rfl rfl rfl rfl (fun E hn hb => ?_)
   repeat (refine nst ?_)
   refine z1b rfl rfl rfl (by rw [hn]; rfl) rfl (by exact vcs) rfl rfl ?_
   repeat (refine nst ?_)
   refine z0w rfl rfl rfl (by rw [hn]; rfl) rfl z2N ?_
   repeat (refine nst ?_)
   refine z0r [0, 65] hk rfl rfl (by rw [hn]; rfl) rfl rfl (by trivial) ⟨rfl, ⟨rfl, rfl⟩, (by simp [z0f]), rfl⟩ ?_
   repeat (refine nst ?_)
   refine z0h rfl rfl rfl rfl rfl (by exact vcs) rfl rfl rfl (by rw [z0T]; rfl) (by rw [z1Q]; rfl) rfl rfl ?_
   repeat (refine nst ?_)
   exact rt1 []
 · rw [z32 _ _ _ he] at hRR
   subst hRR
   generalize z2l l p = R at *
   have hk := zes 200 l p R.2.1 R.1 R.2.2 he hle.1 (by omega) hr
   refine z00 Tryz.func175 rfl rfl rfl rfl rfl (fun E hn hb => ?_)
   repeat (refine nst ?_)
   refine z1b rfl rfl rfl (by rw [hn]; rfl) rfl (by exact vcs) rfl rfl ?_
   repeat (refine nst ?_)
   refine z0w rfl rfl rfl (by rw [hn]; rfl) rfl z2N ?_
   repeat (refine nst ?_)
   refine z0r [0, 65] hk rfl rfl (by rw [hn]; rfl) rfl rfl (by trivial) ⟨rfl, ⟨rfl, rfl⟩, (by simp [z0f]), rfl⟩ ?_
   repeat (refine nst ?_)
   refine z0h rfl rfl rfl rfl rfl (by exact vcs) rfl rfl rfl (by rw [z0T]; rfl) (by rw [z1Q]; rfl) rfl rfl ?_
   repeat (refine nst ?_)
   exact rt1 []
end Go.Proofs.YtaagjnlkinojcaaGreat

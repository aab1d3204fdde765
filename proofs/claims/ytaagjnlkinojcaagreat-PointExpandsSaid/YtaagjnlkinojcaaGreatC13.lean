/-
  Chapter 02: all digits to a base that is a power of two. The conditions: numbers up to a hundred million.
-/
import Derived.Test.YtaagjnlkinojcaaGreatC8
import Derived.Test.YtaagjnlkinojcaaGreatSxN
import Derived.Test.YtaagjnlkinojcaaGreatW16
namespace Go.Proofs.YtaagjnlkinojcaaGreat
set_option linter.unusedSimpArgs false
set_option linter.unusedVariables false
open Go.Sx
set_option maxRecDepth 10000
theorem zhw (b : List Int) (p : Nat) : lenP b p = if p < b.length then
   if b.getD p 0 < 128 then (b.getD p 0, p + 1, 0)
   else if b.getD p 0 = 128 ∨ 132 < b.getD p 0 then (0, p, 5)
   else if b.length < p + 1 + (b.getD p 0 % 128).toNat then (0, p, 3)
   else if b.getD (p + 1) 0 = 0 ∨ z0x 0 ((b.drop (p + 1)).take (b.getD p 0 % 128).toNat) < 128 then (0, p, 5)
   else if 16777216 < z0x 0 ((b.drop (p + 1)).take (b.getD p 0 % 128).toNat) then (0, p, 2)
   else (z0x 0 ((b.drop (p + 1)).take (b.getD p 0 % 128).toNat), p + 1 + (b.getD p 0 % 128).toNat, 0)
   else (0, p, 3) := by
 unfold lenP z2J z29
 repeat' split
 all_goals rfl
set_option maxHeartbeats 4000000 in
theorem zeu (l : List Int) (p : Nat) (hp : p ≤ l.length) (hl : l.length ≤ 16000000) (hw : WfB l) : Ct Tryz.prog 167 [B8 l, lv (.int .i64 (p : Int))] [] (.tup [lv (.int .i64 (lenP l p).1), lv (.int .i64 ((lenP l p).2.1 : Int)), lv (.int .i64 (lenP l p).2.2)]) [] [] := by
 have hTT := zhw l p
 generalize lenP l p = T at *
 refine z00 Tryz.func167 rfl rfl rfl rfl rfl (fun E hn hb => ?_)
 repeat (refine nst ?_)
 refine z04 rfl (by simp) (fun h1 => ?_) (fun h1 => ?_)
 · have h1' : ¬ p < l.length := by simp at h1; omega
   rw [if_neg h1'] at hTT
   subst hTT
   repeat (refine nst ?_)
   exact rt1 []
 have h1' : p < l.length := by simp at h1; omega
 rw [if_pos h1'] at hTT
 have hd := z4K hw p
 repeat (refine nst ?_)
 rw [Int.toNat_natCast]
 generalize hdd : l.getD p 0 = d at *
 repeat (refine nst ?_)
 refine z04 rfl (by simp) (fun h2 => ?_) (fun h2 => ?_)
 · have h2' : d < 128 := by simpa using h2
   rw [if_pos h2'] at hTT
   subst hTT
   repeat (refine nst ?_)
   exact rt1 []
 have h2' : ¬ d < 128 := by simpa using h2
 rw [if_neg h2'] at hTT
 repeat (refine nst ?_)
 refine z04 rfl (by simp) (fun h3 => ?_) (fun h3 => ?_)
 · have h3' : d = 128 ∨ 132 < d := by
     by_cases hz : d = 128
     · exact .inl hz
     · simp [hz] at h3; exact .inr h3
   rw [if_pos h3'] at hTT
   subst hTT
   repeat (refine nst ?_)
   exact rt1 []
 have h3' : ¬ (d = 128 ∨ 132 < d) := by
   rintro (rfl | h)
   · simp at h3
   · simp [h] at h3
 rw [if_neg h3'] at hTT
 obtain ⟨n, hn'⟩ : ∃ n : Nat, d = ((n + 128 : Nat) : Int) := ⟨(d - 128).toNat, by omega⟩
 have en : (d % 128).toNat = n := by omega
 rw [en] at hTT
 clear en h3 h2
 subst hn'
 repeat (refine nst ?_)
 refine z04 rfl (by simp) (fun h4 => ?_) (fun h4 => ?_)
 · have h4' : l.length < p + 1 + n := by simp at h4; omega
   rw [if_pos h4'] at hTT
   subst hTT
   repeat (refine nst ?_)
   exact rt1 []
 have h4' : ¬ l.length < p + 1 + n := by simp at h4; omega
 rw [if_neg h4'] at hTT
 have hxl : ((l.drop (p + 1)).take n).length = n := by simp; omega
 have hxg : ∀ i, i < n → l.getD (p + 1 + i) 0 = ((l.drop (p + 1)).take n).getD i 0 := fun i hi => by
   simp only [List.getD_eq_getElem?_getD, List.getElem?_take, List.getElem?_drop]
   rw [if_pos (by omega)]
 have hxw : WfB ((l.drop (p + 1)).take n) := fun x hx => hw x (List.mem_of_mem_drop (List.mem_of_mem_take hx))
 generalize (l.drop (p + 1)).take n = x at *
 repeat (refine nst ?_)
 rw [show (((n + 128 : Nat) : Int) - 128) = (n : Int) by omega]
 refine z0d (St.le_of (l := [(0, B8 l), (1, lv (.int .i64 (p : Int))), (8, lv (.int .i64 (n : Int))), (9, lv (.int .i64 (z0x 0 (x.take 0)))), (10, lv (.int .i64 (((0 : Nat) : Int) + 1)))]) (h := []) (by refine ⟨?_, ?_⟩ <;> (repeat' (first | exact trivial | exact rfl | refine ⟨?_, ?_⟩)) <;> first | exact rfl | (simp; done) | skip)) ?_
 refine z0l (ι := {i : Nat // i ≤ n}) (fun i => St.of [(0, B8 l), (1, lv (.int .i64 (p : Int))), (8, lv (.int .i64 (n : Int))), (9, lv (.int .i64 (z0x 0 (x.take i.1)))), (10, lv (.int .i64 ((i.1 : Int) + 1)))] []) (fun i => n - i.1) (fun i => ?_) ⟨0, by omega⟩
 obtain ⟨i, hi⟩ := i
 dsimp only
 have hwt : WfB (x.take i) := zc5 hxw i
 have hv0 := z6m (x.take i) 0 (by decide) hwt
 have hv1 : z0x 0 (x.take i) < 256 ^ 4 := zeI (x.take i) 4 (by simp; omega) hwt
 repeat (refine nst ?_)
 refine z04 rfl (by simp) (fun hc => ?_) (fun hc => ?_)
 · have hi8 : i < n := by simp at hc; omega
   have hx := hxw x[i] (List.getElem_mem (by omega))
   have hT : x.take (i + 1) = x.take i ++ [x[i]] := by rw [List.take_add_one, List.getElem?_eq_getElem (by omega)]; rfl
   have hg : l.getD ((p : Int) + ((i : Int) + 1)).toNat 0 = x[i] := by
     rw [show ((p : Int) + ((i : Int) + 1)).toNat = p + 1 + i by omega, hxg i hi8]
     simp [show i < x.length by omega]
   have hvs := zba (x.take i) x[i]
   rw [← hT] at hvs
   generalize z0x 0 (x.take i) = v at *
   have hv2 : v < 4294967296 := by omega
   clear hv1
   repeat (refine nst ?_)
   rw [hg]
   repeat (refine nst ?_)
   refine z0a ⟨i + 1, by omega⟩ (by dsimp only; omega) (St.le_of ⟨⟨rfl, rfl, rfl, ?_, rfl⟩, trivial⟩)
   show lv (.int .i64 (256 * v + x[i])) = lv (.int .i64 (z0x 0 (x.take (i + 1))))
   rw [hvs]
 · have : i = n := by simp at hc; omega
   subst this
   rw [List.take_of_length_le (by omega)] at *
   generalize z0x 0 x = v at *
   repeat (refine nst ?_)
   rw [show ((p : Int) + 1).toNat = p + 1 by omega]
   generalize l.getD (p + 1) 0 = z at *
   refine z04 rfl (by simp) (fun h2 => ?_) (fun h2 => ?_)
   · have h2' : z = 0 ∨ v < 128 := by
       by_cases hz : z = 0
       · exact .inl hz
       · simp [hz] at h2; exact .inr h2
     rw [if_pos h2'] at hTT
     subst hTT
     repeat (refine nst ?_)
     exact rt1 []
   · have h2' : ¬ (z = 0 ∨ v < 128) := by
       rintro (rfl | h)
       · simp at h2
       · simp [h] at h2
     rw [if_neg h2'] at hTT
     repeat (refine nst ?_)
     refine z04 rfl (by simp) (fun h3 => ?_) (fun h3 => ?_)
     · have h3' : 16777216 < v := by simpa using h3
       rw [if_pos h3'] at hTT
       subst hTT
       repeat (refine nst ?_)
       exact rt1 []
     · have h3' : ¬ 16777216 < v := by simpa using h3
       rw [if_neg h3'] at hTT
       subst hTT
       repeat (refine nst ?_)
       refine rt2 [] ?_ ?_
       · show Av.tup [_, lv (.int .i64 ((p : Int) + (i : Int) + 1)), _] = _
         rw [show (p : Int) + (i : Int) + 1 = ((p + 1 + i : Nat) : Int) by omega]
         rfl
       · trivial

theorem zg3 (b : List Int) (p : Nat) : z09 b p = if (z0H b p).2.2 = 0 then
   if (lenP b (z0H b p).2.1).2.2 = 0 then (((z0H b p).1, (lenP b (z0H b p).2.1).1), (lenP b (z0H b p).2.1).2.1, 0) else ((z2H, 0), p, (lenP b (z0H b p).2.1).2.2)
   else ((z2H, 0), p, (z0H b p).2.2) := by
 unfold z09 z2m z0S
 by_cases h1 : (z0H b p).2.2 = 0
 · rw [if_pos h1, if_pos h1]
   by_cases h2 : (lenP b (z0H b p).2.1).2.2 = 0
   · rw [if_pos h2, if_pos h2, h2]
   · rw [if_neg h2, if_neg h2]
 · rw [if_neg h1, if_neg h1, if_neg h1]
theorem zg4 (b : List Int) (p : Nat) (t : z0q) : z0y b p t = if (z09 b p).2.2 = 0 then
   if (z09 b p).1.1 = t then
     if (b.length : Int) - ((z09 b p).2.1 : Int) < (z09 b p).1.2 then ([], p, 3)
     else ((b.drop (z09 b p).2.1).take (z09 b p).1.2.toNat, (z09 b p).2.1 + (z09 b p).1.2.toNat, 0)
   else ([], p, 4)
   else ([], p, (z09 b p).2.2) := by
 unfold z0y z1y z0S
 by_cases h1 : (z09 b p).2.2 = 0
 · rw [if_pos h1, if_pos h1]
   repeat' split
   all_goals first | rfl | simp_all
 · rw [if_neg h1, if_neg h1, if_neg h1]
abbrev frR (r : (z0q × Int) × Nat × Int) : Av := .tup [z1W r.1.1, lv (.int .i64 r.1.2), lv (.int .i64 (r.2.1 : Int)), lv (.int .i64 r.2.2)]
theorem zd9 (l : List Int) (p : Nat) (hp : p ≤ l.length) (hl : l.length ≤ 16000000) (hw : WfB l) : Ct Tryz.prog 122 [B8 l, lv (.int .i64 (p : Int))] [] (frR (z09 l p)) [] [] := by
 have hTT := zg3 l p
 have ht := zcJ l p hp hl hw
 have hnl := zeu l (z0H l p).2.1 (z7j l p hp).2 hl hw
 generalize z09 l p = R at *
 generalize z0H l p = T at *
 generalize lenP l T.2.1 = N at *
 refine z00 Tryz.func122 rfl rfl rfl rfl rfl (fun E hn hb => ?_)
 repeat (refine nst ?_)
 refine z0w rfl rfl rfl (by rw [hn]; rfl) rfl z6W ?_
 repeat (refine nst ?_)
 refine z1e (ht) rfl rfl rfl (by rw [hn]; rfl) rfl rfl (by exact vcs) rfl rfl rfl ?_
 repeat (refine nst ?_)
 refine z0w rfl rfl rfl (by rw [hn]; rfl) rfl z6W ?_
 repeat (refine nst ?_)
 refine z0h rfl rfl rfl rfl rfl (by exact vcs) rfl rfl rfl (by rw [z1o]; rfl) (by rw [z21]; rfl) rfl rfl ?_
 repeat (refine nst ?_)
 refine z04 rfl (by simp) (fun h1 => ?_) (fun h1 => ?_)
 · have h1' : ¬ T.2.2 = 0 := by simpa using h1
   rw [if_neg h1'] at hTT
   subst hTT
   repeat (refine nst ?_)
   refine z0h rfl rfl rfl rfl rfl (by exact vcs) rfl rfl rfl (by rw [z1o]; rfl) (by rw [z21]; rfl) rfl rfl ?_
   repeat (refine nst ?_)
   exact rt1 []
 have h1' : T.2.2 = 0 := by simpa using h1
 rw [if_pos h1'] at hTT
 repeat (refine nst ?_)
 refine z1e (hnl) rfl rfl rfl (by rw [hn]; rfl) rfl rfl (by exact vcs) rfl rfl rfl ?_
 repeat (refine nst ?_)
 refine z04 rfl (by simp) (fun h2 => ?_) (fun h2 => ?_)
 · have h2' : ¬ N.2.2 = 0 := by simpa using h2
   rw [if_neg h2'] at hTT
   subst hTT
   repeat (refine nst ?_)
   refine z0h rfl rfl rfl rfl rfl (by exact vcs) rfl rfl rfl (by rw [z1o]; rfl) (by rw [z21]; rfl) rfl rfl ?_
   repeat (refine nst ?_)
   exact rt1 []
 have h2' : N.2.2 = 0 := by simpa using h2
 rw [if_pos h2'] at hTT
 subst hTT
 repeat (refine nst ?_)
 refine z0h rfl rfl rfl rfl rfl (by exact vcs) rfl rfl rfl (by rw [z1o]; rfl) (by rw [z21]; rfl) rfl rfl ?_
 repeat (refine nst ?_)
 exact rt1 []

def z3T (l : List Int) (p : Nat) : List Int × Nat × Int :=
 let r := z0y l p (ofT 6)
 if r.2.2 = 0 then (let x := z23 r.1; if x.2 = 0 then (x.1, r.2.1, 0) else ([], p, x.2)) else ([], p, r.2.2)
theorem zg5 (l : List Int) (p : Nat) (hp : p ≤ l.length) (hl : l.length ≤ 16000000) (hw : WfB l) : Ct Tryz.prog 233 [.c (.ptr 0 0)] [z06 l p] (.tup [I64 (z3T l p).1, lv (.int .i64 (z3T l p).2.2)]) [z06 l (z3T l p).2.1] [] := by
 have hat := z1P l p
 have hho := z1I 6
 have hop := z3w l p (ofT 6) hp hl hw
 have hoe := z5X l p (ofT 6) hp hl hw
 have hle := z49 l p (ofT 6) hp
 have hmem := z2w l p (ofT 6)
 unfold z3T
 generalize z0y l p (ofT 6) = X at *
 obtain ⟨x, q, e⟩ := X
 dsimp only at *
 by_cases he : e = 0
 · subst he
   have hop := hop rfl
   rw [if_pos rfl]
   have hre := zc3 x 0 (Nat.zero_le _) (by omega)
   rw [List.drop_zero] at hre
   have hpa := z9h x (by omega) (fun y hy => hw y (hmem.2 y hy))
   have hbk := z22 l q p hle.1 (by omega)
   generalize z23 x = Y at *
   obtain ⟨o, f⟩ := Y
   dsimp only at *
   by_cases hf : f = 0
   · subst hf
     rw [if_pos rfl]
     refine z00 Tryz.func233 rfl rfl rfl rfl rfl (fun E hn hb => ?_)
     repeat refine nx ?_
     exact rtU []
   · rw [if_neg hf]
     refine z00 Tryz.func233 rfl rfl rfl rfl rfl (fun E hn hb => ?_)
     repeat refine nx ?_
     exact rtU []
 · have hoe := hoe he
   rw [if_neg he]
   refine z00 Tryz.func233 rfl rfl rfl rfl rfl (fun E hn hb => ?_)
   repeat refine nx ?_
   exact rtU []
theorem zbY (l : List Int) (p : Nat) (hp : p ≤ l.length) : p ≤ (z3T l p).2.1 ∧ (z3T l p).2.1 ≤ l.length := by
 have h := z49 l p (ofT 6) hp
 unfold z3T
 dsimp only
 split
 · split
   · exact h
   · exact ⟨Nat.le_refl _, hp⟩
 · exact ⟨Nat.le_refl _, hp⟩

theorem zbZ (s : Nat) (hs : s ≤ 8) (n : Int) (h : 0 ≤ n ∧ n < 4611686018427387904) : IntKind.i64.wrap (BitVec.ofInt IntKind.i64.bits n &&& BitVec.ofInt IntKind.i64.bits (2 ^ s - 1)).toNat = n % 2 ^ s := by
 obtain ⟨n, rfl⟩ : ∃ m : Nat, n = m := ⟨n.toNat, by omega⟩
 have hp : (2 : Nat) ^ s ≤ 256 := Nat.pow_le_pow_right (by decide) hs
 have hp1 : 0 < (2 : Nat) ^ s := Nat.pow_pos (by decide)
 have e0 : (2 : Int) ^ s - 1 = ((2 ^ s - 1 : Nat) : Int) := by
   have : ((2 ^ s : Nat) : Int) = (2 : Int) ^ s := by simp
   omega
 have e3 : ((n : Int) % 2 ^ s) = ((n % 2 ^ s : Nat) : Int) := by simp
 rw [e0, e3]
 have hm := Nat.and_two_pow_sub_one_eq_mod n s
 have hlt : n % 2 ^ s < 256 := Nat.lt_of_lt_of_le (Nat.mod_lt _ hp1) hp
 rw [← hm] at hlt ⊢
 have e1 : (BitVec.ofInt IntKind.i64.bits (n : Int)).toNat = n := by
   rw [BitVec.toNat_ofInt]; simp only [IntKind.bits]; omega
 have e2 : (BitVec.ofInt IntKind.i64.bits ((2 ^ s - 1 : Nat) : Int)).toNat = 2 ^ s - 1 := by
   rw [BitVec.toNat_ofInt]; simp only [IntKind.bits]; omega
 rw [BitVec.toNat_and, e1, e2]
 generalize n &&& (2 ^ s - 1) = z at *
 simp only [IntKind.wrap, IntKind.signed, IntKind.bits]
 simp
 omega
abbrev iB (n : Int) : Blk := .cells [.lf (.v (.int .i64 n))]
theorem zev (acc : List Int) (n : Int) (hn0 : 0 ≤ n ∧ n < 4611686018427387904) (hl : acc.length ≤ 1000) :
   CtM Tryz.prog 231 [.c (.ptr 0 0), .c (.ptr 1 0), .c (.ptr 2 0)] [.cells [.own 3 1 0 acc.length], iB n, iB 7, .row (.ints .u8 acc)] (.tup [])
     [.cells [.own 4 1 0 (acc.length + 1)], iB n, iB 7, .gone] [.row (.ints .u8 (acc ++ [n % 128]))] := by
 have ha : IntKind.i64.wrap (BitVec.ofInt IntKind.i64.bits n &&& BitVec.ofInt IntKind.i64.bits (1 * 2 ^ min (Int.toNat 7) IntKind.i64.bits - 1)).toNat = n % 128 := zbZ 7 (by decide) n hn0
 refine z2y Tryz.func231 rfl rfl rfl rfl rfl (fun E hn hb => ?_)
 repeat (refine nst ?_)
 refine z2u 8 (by kernel_rfl) (by kernel_rfl) (by kernel_rfl) (by rw [hn]; rfl) rfl rfl ?_
 repeat (first | refine dp1 ?_ | refine dg1 ?_ | refine z0E ?_)
 rw [ha]
 refine z1f rfl (z1c (z6d (d := (.ints .u8 [n % 128])) rfl (z0j Tryz.underlying28 rfl rfl) z2p rfl (by exact vcs) rfl ⟨by decide, by decide, rfl, rfl⟩) rfl) ?_
 repeat (first | refine dp1 ?_ | refine dg1 ?_ | refine z0E ?_)
 repeat (refine nst ?_)
 refine z5d 95 rfl rfl rfl rfl rfl (by rw [hn]; rfl) (z0j Tryz.underlying28 rfl rfl) rfl rfl rfl rfl ?_ (by simp) ⟨by simp; omega, by decide⟩ ?_ ?_
 · trivial
 · repeat (refine nst ?_)
   refine z0h rfl rfl rfl rfl rfl (by exact vcs) rfl rfl rfl (by rw [z2A]; rfl) (by rw [z3X]; rfl) rfl rfl ?_
   rw [Nat.zero_add, List.take_length]
   repeat (refine nst ?_)
   exact z53 [3] rfl (by trivial) ⟨rfl, ⟨.inr rfl, .inr rfl, .inr rfl, .inl rfl⟩, rfl, rfl⟩ hb rfl
 · repeat (refine nst ?_)
   refine z0h rfl rfl rfl rfl rfl (by exact vcs) rfl rfl rfl (by rw [z2A]; rfl) (by rw [z3X]; rfl) rfl rfl ?_
   rw [Nat.zero_add, List.take_length, List.drop_zero]
   repeat (refine nst ?_)
   exact z53 [95] rfl (by trivial) ⟨rfl, ⟨.inr rfl, .inr rfl, .inr rfl, .inl rfl⟩, rfl, rfl⟩ hb rfl
theorem zew (acc : List Int) (n : Int) (hn0 : 0 ≤ n ∧ n < 4611686018427387904) (hl : acc.length ≤ 1000) :
   CtM Tryz.prog 231 [.c (.ptr 0 0), .c (.ptr 1 0), .c (.ptr 2 0)] [.cells [.own 3 1 0 acc.length], iB n, iB 8, .row (.ints .u8 acc)] (.tup [])
     [.cells [.own 4 1 0 (acc.length + 1)], iB n, iB 8, .gone] [.row (.ints .u8 (acc ++ [n % 256]))] := by
 have ha : IntKind.i64.wrap (BitVec.ofInt IntKind.i64.bits n &&& BitVec.ofInt IntKind.i64.bits (1 * 2 ^ min (Int.toNat 8) IntKind.i64.bits - 1)).toNat = n % 256 := zbZ 8 (by decide) n hn0
 refine z2y Tryz.func231 rfl rfl rfl rfl rfl (fun E hn hb => ?_)
 repeat (refine nst ?_)
 refine z2u 8 (by kernel_rfl) (by kernel_rfl) (by kernel_rfl) (by rw [hn]; rfl) rfl rfl ?_
 repeat (first | refine dp1 ?_ | refine dg1 ?_ | refine z0E ?_)
 rw [ha]
 refine z1f rfl (z1c (z6d (d := (.ints .u8 [n % 256])) rfl (z0j Tryz.underlying28 rfl rfl) z2p rfl (by exact vcs) rfl ⟨by decide, by decide, rfl, rfl⟩) rfl) ?_
 repeat (first | refine dp1 ?_ | refine dg1 ?_ | refine z0E ?_)
 repeat (refine nst ?_)
 refine z5d 95 rfl rfl rfl rfl rfl (by rw [hn]; rfl) (z0j Tryz.underlying28 rfl rfl) rfl rfl rfl rfl ?_ (by simp) ⟨by simp; omega, by decide⟩ ?_ ?_
 · trivial
 · repeat (refine nst ?_)
   refine z0h rfl rfl rfl rfl rfl (by exact vcs) rfl rfl rfl (by rw [z2A]; rfl) (by rw [z3X]; rfl) rfl rfl ?_
   rw [Nat.zero_add, List.take_length]
   repeat (refine nst ?_)
   exact z53 [3] rfl (by trivial) ⟨rfl, ⟨.inr rfl, .inr rfl, .inr rfl, .inl rfl⟩, rfl, rfl⟩ hb rfl
 · repeat (refine nst ?_)
   refine z0h rfl rfl rfl rfl rfl (by exact vcs) rfl rfl rfl (by rw [z2A]; rfl) (by rw [z3X]; rfl) rfl rfl ?_
   rw [Nat.zero_add, List.take_length, List.drop_zero]
   repeat (refine nst ?_)
   exact z53 [95] rfl (by trivial) ⟨rfl, ⟨.inr rfl, .inr rfl, .inr rfl, .inl rfl⟩, rfl, rfl⟩ hb rfl

def z0t (m : Nat) : Nat → Nat → List Int
 | 0, _ => []
 | k + 1, n => if n = 0 then [] else ((n % m : Nat) : Int) :: z0t m k (n / m)
theorem z1S (m : Nat) : ∀ (k n : Nat), (z0t m k n).length ≤ k
 | 0, n => by simp [z0t]
 | k + 1, n => by
   have := z1S m k (n / m)
   unfold z0t
   split <;> simp <;> omega
theorem zc0 (m : Nat) (h0 : 0 < m) (hm : m ≤ 256) : ∀ (k n : Nat), WfB (z0t m k n)
 | 0, n => fun x h => by simp [z0t] at h
 | k + 1, n => by
   have ih := zc0 m h0 hm k (n / m)
   have := Nat.mod_lt n h0
   unfold z0t
   split
   · exact fun x h => by simp at h
   · intro x hx
     cases hx with
     | head => omega
     | tail _ hx => exact ih x hx
structure DS where
 n : Nat
 k : Nat
 acc : List Int
theorem zda (n : Nat) (hn1 : n ≤ 100000000) :
   Ct Tryz.prog 218 [lv (.int .i64 (n : Int)), lv (.int .i64 7)] [] (.c (.own 0 1 0 (z0t 128 5 n).length)) [] [.row (.ints .u8 (z0t 128 5 n).reverse)] := by
 obtain ⟨D, hD⟩ : ∃ D, z0t 128 5 n = D := ⟨_, rfl⟩
 have hDl : D.length ≤ 5 := by rw [← hD]; exact z1S _ _ _
 rw [hD]
 refine z00 Tryz.func218 rfl rfl rfl rfl rfl (fun E hn hb => ?_)
 repeat (refine nst ?_)
 refine z1b rfl rfl rfl (by rw [hn]; rfl) rfl (by exact vcs) rfl rfl ?_
 repeat (refine nst ?_)
 refine z1b rfl rfl rfl (by rw [hn]; rfl) rfl (by exact vcs) rfl rfl ?_
 repeat (refine nst ?_)
 refine z0w rfl rfl rfl (by rw [hn]; rfl) rfl z9N ?_
 repeat (refine nst ?_)
 refine zaa (fun a w h => SR.cell_nil (cs := [.lf (.v (.slice none 0 0))]) (cs' := [.own 900 1 0 0]) 69 0 900 rfl rfl rfl rfl rfl h) ?_
 refine z0d (St.le_of (l := [(2, .c (.ptr 66 0)), (3, .c (.ptr 67 0)), (5, .c (.ptr 69 0)), (6, .c (.fn (.func 231) [] [.ptr 69 0, .ptr 66 0, .ptr 67 0]))]) (h := [(66, iB (n : Int)), (67, iB 7), (69, .cells [.own 900 1 0 ([] : List Int).length]), (900, .row (.ints .u8 []))]) (by refine ⟨?_, ?_⟩ <;> (repeat' (first | exact trivial | exact rfl | refine ⟨?_, ?_⟩)) <;> first | exact rfl | (simp; done) | skip)) ?_
 refine z0l (ι := {s : DS // s.acc ++ z0t 128 s.k s.n = D ∧ s.n ≤ 100000000 ∧ s.n < 128 ^ s.k ∧ s.acc.length ≤ 5}) (fun s => St.of [(2, .c (.ptr 66 0)), (3, .c (.ptr 67 0)), (5, .c (.ptr 69 0)), (6, .c (.fn (.func 231) [] [.ptr 69 0, .ptr 66 0, .ptr 67 0]))] [(66, iB (s.1.n : Int)), (67, iB 7), (69, .cells [.own 900 1 0 s.1.acc.length]), (900, .row (.ints .u8 s.1.acc))]) (fun s => s.1.k) (fun s => ?_) ⟨⟨n, 5, []⟩, hD, hn1, by dsimp only; omega, by simp⟩
 obtain ⟨⟨n, k, acc⟩, h1, h2, h3, h4⟩ := s
 dsimp only at h1 h2 h3 h4 ⊢
 clear hn1 hD
 repeat (refine nst ?_)
 refine z04 rfl (by simp) (fun hc => ?_) (fun hc => ?_)
 · have hnp : 0 < n := by simpa using hc
   obtain ⟨k, rfl⟩ : ∃ k', k = k' + 1 := by
     cases k with
     | zero => simp at h3; omega
     | succ k => exact ⟨k, rfl⟩
   have hcl := zev acc (n : Int) (by omega) (by omega)
   have e1 : ((n : Int) % 128) = ((n % 128 : Nat) : Int) := by omega
   rw [e1] at hcl
   unfold z0t at h1
   rw [if_neg (by omega)] at h1
   have h5 : (acc ++ [((n % 128 : Nat) : Int)]) ++ z0t 128 k (n / 128) = D := by rw [List.append_assoc]; exact h1
   have h6 : (acc ++ [((n % 128 : Nat) : Int)]).length ≤ 5 := by
     have := congrArg List.length h5
     simp at this ⊢
     omega
   have h7 : n / 128 < 128 ^ k := by
     rw [Nat.pow_succ] at h3
     exact Nat.div_lt_of_lt_mul (by rw [Nat.mul_comm]; exact h3)
   have e8 : (acc ++ [((n % 128 : Nat) : Int)]).length = acc.length + 1 := by simp
   generalize acc ++ [((n % 128 : Nat) : Int)] = acc2 at *
   repeat (refine nst ?_)
   refine z5L [69, 66, 67, 900] hcl rfl rfl (by rw [hn]; rfl) rfl rfl (by trivial) ⟨rfl, ⟨rfl, rfl, rfl, rfl⟩, (by simp [z0f]), rfl⟩ ?_
   repeat (refine nst ?_)
   have e9 : (n : Int) / 2 ^ min (Int.toNat 7) IntKind.i64.bits = ((n / 128 : Nat) : Int) := by
     have : min (Int.toNat 7) IntKind.i64.bits = 7 := by decide
     rw [this]
     omega
   rw [e9]
   refine z0h rfl rfl rfl rfl rfl (by exact vcs) rfl rfl rfl (by rw [z2o]; rfl) (by rw [z4I]; rfl) rfl rfl ?_
   repeat (refine nst ?_)
   refine z4T (fun a w h => SR.mv 78 900 rfl rfl rfl rfl rfl h) ?_
   refine z0a ⟨⟨n / 128, k, acc2⟩, h5, by dsimp only; omega, h7, h6⟩ (by dsimp only; omega) (St.le_of ⟨⟨rfl, rfl, rfl, rfl⟩, ⟨rfl, rfl, ?_, rfl⟩⟩)
   dsimp only
   rw [e8]
   rfl
 · have hn0 : n = 0 := by simp at hc; omega
   subst hn0
   have e1 : z0t 128 k 0 = [] := by cases k <;> rfl
   rw [e1, List.append_nil] at h1
   subst h1
   have hrv := z6l acc (by omega)
   repeat (refine nst ?_)
   refine z0r [900] hrv rfl rfl (by rw [hn]; rfl) rfl rfl (by trivial) ⟨rfl, rfl, (by simp [z0f]), rfl⟩ ?_
   repeat (refine nst ?_)
   exact rt1 [900]
theorem zdb (n : Nat) (hn1 : n ≤ 100000000) :
   Ct Tryz.prog 218 [lv (.int .i64 (n : Int)), lv (.int .i64 8)] [] (.c (.own 0 1 0 (z0t 256 5 n).length)) [] [.row (.ints .u8 (z0t 256 5 n).reverse)] := by
 obtain ⟨D, hD⟩ : ∃ D, z0t 256 5 n = D := ⟨_, rfl⟩
 have hDl : D.length ≤ 5 := by rw [← hD]; exact z1S _ _ _
 rw [hD]
 refine z00 Tryz.func218 rfl rfl rfl rfl rfl (fun E hn hb => ?_)
 repeat (refine nst ?_)
 refine z1b rfl rfl rfl (by rw [hn]; rfl) rfl (by exact vcs) rfl rfl ?_
 repeat (refine nst ?_)
 refine z1b rfl rfl rfl (by rw [hn]; rfl) rfl (by exact vcs) rfl rfl ?_
 repeat (refine nst ?_)
 refine z0w rfl rfl rfl (by rw [hn]; rfl) rfl z9N ?_
 repeat (refine nst ?_)
 refine zaa (fun a w h => SR.cell_nil (cs := [.lf (.v (.slice none 0 0))]) (cs' := [.own 900 1 0 0]) 69 0 900 rfl rfl rfl rfl rfl h) ?_
 refine z0d (St.le_of (l := [(2, .c (.ptr 66 0)), (3, .c (.ptr 67 0)), (5, .c (.ptr 69 0)), (6, .c (.fn (.func 231) [] [.ptr 69 0, .ptr 66 0, .ptr 67 0]))]) (h := [(66, iB (n : Int)), (67, iB 8), (69, .cells [.own 900 1 0 ([] : List Int).length]), (900, .row (.ints .u8 []))]) (by refine ⟨?_, ?_⟩ <;> (repeat' (first | exact trivial | exact rfl | refine ⟨?_, ?_⟩)) <;> first | exact rfl | (simp; done) | skip)) ?_
 refine z0l (ι := {s : DS // s.acc ++ z0t 256 s.k s.n = D ∧ s.n ≤ 100000000 ∧ s.n < 256 ^ s.k ∧ s.acc.length ≤ 5}) (fun s => St.of [(2, .c (.ptr 66 0)), (3, .c (.ptr 67 0)), (5, .c (.ptr 69 0)), (6, .c (.fn (.func 231) [] [.ptr 69 0, .ptr 66 0, .ptr 67 0]))] [(66, iB (s.1.n : Int)), (67, iB 8), (69, .cells [.own 900 1 0 s.1.acc.length]), (900, .row (.ints .u8 s.1.acc))]) (fun s => s.1.k) (fun s => ?_) ⟨⟨n, 5, []⟩, hD, hn1, by dsimp only; omega, by simp⟩
 obtain ⟨⟨n, k, acc⟩, h1, h2, h3, h4⟩ := s
 dsimp only at h1 h2 h3 h4 ⊢
 clear hn1 hD
 repeat (refine nst ?_)
 refine z04 rfl (by simp) (fun hc => ?_) (fun hc => ?_)
 · have hnp : 0 < n := by simpa using hc
   obtain ⟨k, rfl⟩ : ∃ k', k = k' + 1 := by
     cases k with
     | zero => simp at h3; omega
     | succ k => exact ⟨k, rfl⟩
   have hcl := zew acc (n : Int) (by omega) (by omega)
   have e1 : ((n : Int) % 256) = ((n % 256 : Nat) : Int) := by omega
   rw [e1] at hcl
   unfold z0t at h1
   rw [if_neg (by omega)] at h1
   have h5 : (acc ++ [((n % 256 : Nat) : Int)]) ++ z0t 256 k (n / 256) = D := by rw [List.append_assoc]; exact h1
   have h6 : (acc ++ [((n % 256 : Nat) : Int)]).length ≤ 5 := by
     have := congrArg List.length h5
     simp at this ⊢
     omega
   have h7 : n / 256 < 256 ^ k := by
     rw [Nat.pow_succ] at h3
     exact Nat.div_lt_of_lt_mul (by rw [Nat.mul_comm]; exact h3)
   have e8 : (acc ++ [((n % 256 : Nat) : Int)]).length = acc.length + 1 := by simp
   generalize acc ++ [((n % 256 : Nat) : Int)] = acc2 at *
   repeat (refine nst ?_)
   refine z5L [69, 66, 67, 900] hcl rfl rfl (by rw [hn]; rfl) rfl rfl (by trivial) ⟨rfl, ⟨rfl, rfl, rfl, rfl⟩, (by simp [z0f]), rfl⟩ ?_
   repeat (refine nst ?_)
   have e9 : (n : Int) / 2 ^ min (Int.toNat 8) IntKind.i64.bits = ((n / 256 : Nat) : Int) := by
     have : min (Int.toNat 8) IntKind.i64.bits = 8 := by decide
     rw [this]
     omega
   rw [e9]
   refine z0h rfl rfl rfl rfl rfl (by exact vcs) rfl rfl rfl (by rw [z2o]; rfl) (by rw [z4I]; rfl) rfl rfl ?_
   repeat (refine nst ?_)
   refine z4T (fun a w h => SR.mv 78 900 rfl rfl rfl rfl rfl h) ?_
   refine z0a ⟨⟨n / 256, k, acc2⟩, h5, by dsimp only; omega, h7, h6⟩ (by dsimp only; omega) (St.le_of ⟨⟨rfl, rfl, rfl, rfl⟩, ⟨rfl, rfl, ?_, rfl⟩⟩)
   dsimp only
   rw [e8]
   rfl
 · have hn0 : n = 0 := by simp at hc; omega
   subst hn0
   have e1 : z0t 256 k 0 = [] := by cases k <;> rfl
   rw [e1, List.append_nil] at h1
   subst h1
   have hrv := z6l acc (by omega)
   repeat (refine nst ?_)
   refine z0r [900] hrv rfl rfl (by rw [hn]; rfl) rfl rfl (by trivial) ⟨rfl, rfl, (by simp [z0f]), rfl⟩ ?_
   repeat (refine nst ?_)
   exact rt1 [900]
end Go.Proofs.YtaagjnlkinojcaaGreat

/-
  Chapter 16: masks and reasons. The conditions: rows of at most a million numbers.
-/
import Derived.Test.YtaagjnlkinojcaaGreatSxQ
import Derived.Test.YtaagjnlkinojcaaGreatC7
namespace Go.Sx
open Go
set_option linter.unusedVariables false
set_option linter.unusedSimpArgs false
section
variable {P : Program} {E : Env} {ops : Array Oper} {Q : Exit → Act → World → Prop} {rest : List Oper} {o : Oper} {σ : St} {α : Type} {f : α → List Leaf}
theorem wgF {nt : Nat} {dd : Option Nat} {i : Nat} {b : Bool} (x : Av) (hn : E.n = nt) (hk : WL P E ops Q rest (σ.put dd (.cnd false x))) (hg : o.guard = some (i, b) := by exact rfl) (hG : guardC ops σ i b = some false := by exact rfl) (hdf : forceO o.dst some = some dd := by exact rfl) (hd : dstOk nt dd = true := by exact rfl) : WL P E ops Q (o :: rest) σ := by
 simp only [forceO_eq, Option.some.injEq] at hdf
 subst hdf
 exact WL_q (opq_ofG hg hG fun h => by cases h) (by rw [hn]; exact hd) hk
end
end Go.Sx

namespace Go.Proofs.YtaagjnlkinojcaaGreat
set_option linter.unusedSimpArgs false
set_option linter.unusedVariables false
open Go.Sx
set_option maxRecDepth 10000
theorem headaT_ok (n : Int) (b : Bool) : Ct Tryz.prog 111 [lv (.int .i64 n), lv (.bool b)] [] (tagA (2, n, b)) [] [] := by
 refine Ct_intro Tryz.func111 rfl rfl rfl rfl rfl (fun E hn hb => ?_)
 repeat refine nx ?_
 exact rt1 []
def isT (l : List Int) (p : Nat) (t : TagP) : Bool := decide ((readP l p).2.2 = 0) && decide ((readP l p).1.1 = t)
theorem hisT_ok (l : List Int) (p : Nat) (t : TagP) (hp : p ≤ l.length) (hl : l.length ≤ 1000000) (hw : WfB l) : Ct Tryz.prog 110 [.c (.ptr 0 0), tagA t] [curB l p] (lv (.bool (isT l p t))) [curB l p] [] := by
 have hat := at_ok l p
 have hrd := read_ok l p hp hl hw
 have hle := readP_le l p hp
 unfold isT
 generalize readP l p = R at *
 obtain ⟨⟨u, n⟩, q, e⟩ := R
 dsimp only at *
 have hbk := back_ok l q p hle.1 (by omega)
 obtain ⟨u1, u2, u3⟩ := u
 obtain ⟨t1, t2, t3⟩ := t
 by_cases he : e = 0
 · subst he
   obtain ⟨B, hB⟩ : ∃ B, (decide ((0 : Int) = 0) && decide ((u1, u2, u3) = (t1, t2, t3))) = B := ⟨_, rfl⟩
   rw [hB]
   refine Ct_intro Tryz.func110 rfl rfl rfl rfl rfl (fun E hn hb => ?_)
   repeat refine nx ?_
   refine rt2 [] ?_ ?_
   · refine congrArg (fun x => lv (.bool x)) ?_
     rw [← hB]
     simp [eqCs, Cell.kill, Cell.kill1, Bool.and_assoc]
     try rfl
   · trivial
 · rw [decide_eq_false he]
   refine Ct_intro Tryz.func110 rfl rfl rfl rfl rfl (fun E hn hb => ?_)
   repeat refine nx ?_
   refine rt2 [] ?_ ?_
   · refine congrArg (fun x => lv (.bool x)) ?_
     simp [he]
   · trivial
abbrev nilS : Av := lv (.slice none 0 0)
abbrev nilQ : Av := lv (.pointer none)
theorem partW_no (l : List Int) (p : Nat) (n : Int) (b : Bool) (g : Nat) (hp : p ≤ l.length) (hl : l.length ≤ 1000000) (hw : WfB l) (h : isT l p (2, n, b) = false) : Ct Tryz.prog 108 [.c (.ptr 0 0), lv (.int .i64 n), lv (.bool b), .c (.fn (.func g) [] [])] [curB l p] (.tup [nilQ, lv (.int .i64 0)]) [curB l p] [] := by
 have h1 := headaT_ok n b
 have h2 := hisT_ok l p (2, n, b) hp hl hw
 rw [h] at h2
 refine Ct_intro Tryz.func108 rfl rfl rfl rfl rfl (fun E hn hb => ?_)
 repeat refine nx ?_
 exact rt1 []
theorem partI_no (l : List Int) (p : Nat) (n : Int) (b : Bool) (g : Nat) (hp : p ≤ l.length) (hl : l.length ≤ 1000000) (hw : WfB l) (h : isT l p (2, n, b) = false) : Ct Tryz.prog 115 [.c (.ptr 0 0), lv (.int .i64 n), lv (.bool b), .c (.fn (.func g) [] [])] [curB l p] (.tup [nilS, lv (.int .i64 0)]) [curB l p] [] := by
 have h1 := headaT_ok n b
 have h2 := hisT_ok l p (2, n, b) hp hl hw
 rw [h] at h2
 refine Ct_intro Tryz.func115 rfl rfl rfl rfl rfl (fun E hn hb => ?_)
 repeat refine nx ?_
 exact rt1 []
theorem partG_no (l : List Int) (p : Nat) (n : Int) (b : Bool) (g : Nat) (hp : p ≤ l.length) (hl : l.length ≤ 1000000) (hw : WfB l) (h : isT l p (2, n, b) = false) : Ct Tryz.prog 112 [.c (.ptr 0 0), lv (.int .i64 n), lv (.bool b), .c (.fn (.func g) [] [])] [curB l p] (.tup [nilS, lv (.int .i64 0)]) [curB l p] [] := by
 have h1 := headaT_ok n b
 have h2 := hisT_ok l p (2, n, b) hp hl hw
 rw [h] at h2
 refine Ct_intro Tryz.func112 rfl rfl rfl rfl rfl (fun E hn hb => ?_)
 repeat refine nx ?_
 exact rt1 []
theorem partB_no (l : List Int) (p : Nat) (n : Int) (b : Bool) (g : Nat) (hp : p ≤ l.length) (hl : l.length ≤ 1000000) (hw : WfB l) (h : isT l p (2, n, b) = false) : Ct Tryz.prog 149 [.c (.ptr 0 0), lv (.int .i64 n), lv (.bool b), .c (.fn (.func g) [] [])] [curB l p] (.tup [lv (.bool false), lv (.int .i64 0)]) [curB l p] [] := by
 have h1 := headaT_ok n b
 have h2 := hisT_ok l p (2, n, b) hp hl hw
 rw [h] at h2
 refine Ct_intro Tryz.func149 rfl rfl rfl rfl rfl (fun E hn hb => ?_)
 repeat refine nx ?_
 exact rt1 []
abbrev rdB (e : Int) : Blk := .cells [.ptr 1 0, .lf (.v (.int .i64 e))]
theorem takeW_no (l : List Int) (p : Nat) (n : Int) (b : Bool) (g : Nat) (hp : p ≤ l.length) (hl : l.length ≤ 1000000) (hw : WfB l) (h : isT l p (2, n, b) = false) : Ct Tryz.prog 51 [.c (.ptr 0 0), lv (.int .i64 n), lv (.bool b), .c (.fn (.func g) [] [])] [rdB 0, curB l p] nilQ [rdB 0, curB l p] [] := by
 have h1 := partW_no l p n b g hp hl hw h
 refine Ct_intro Tryz.func51 rfl rfl rfl rfl rfl (fun E hn hb => ?_)
 repeat refine nx ?_
 exact rt1 []
theorem takeI_no (l : List Int) (p : Nat) (n : Int) (b : Bool) (g : Nat) (hp : p ≤ l.length) (hl : l.length ≤ 1000000) (hw : WfB l) (h : isT l p (2, n, b) = false) : Ct Tryz.prog 53 [.c (.ptr 0 0), lv (.int .i64 n), lv (.bool b), .c (.fn (.func g) [] [])] [rdB 0, curB l p] nilS [rdB 0, curB l p] [] := by
 have h1 := partI_no l p n b g hp hl hw h
 refine Ct_intro Tryz.func53 rfl rfl rfl rfl rfl (fun E hn hb => ?_)
 repeat refine nx ?_
 exact rt1 []
theorem takeG_no (l : List Int) (p : Nat) (n : Int) (b : Bool) (g : Nat) (hp : p ≤ l.length) (hl : l.length ≤ 1000000) (hw : WfB l) (h : isT l p (2, n, b) = false) : Ct Tryz.prog 55 [.c (.ptr 0 0), lv (.int .i64 n), lv (.bool b), .c (.fn (.func g) [] [])] [rdB 0, curB l p] nilS [rdB 0, curB l p] [] := by
 have h1 := partG_no l p n b g hp hl hw h
 refine Ct_intro Tryz.func55 rfl rfl rfl rfl rfl (fun E hn hb => ?_)
 repeat refine nx ?_
 exact rt1 []
theorem takeB_no (l : List Int) (p : Nat) (n : Int) (b : Bool) (g : Nat) (hp : p ≤ l.length) (hl : l.length ≤ 1000000) (hw : WfB l) (h : isT l p (2, n, b) = false) : Ct Tryz.prog 90 [.c (.ptr 0 0), lv (.int .i64 n), lv (.bool b), .c (.fn (.func g) [] [])] [rdB 0, curB l p] (lv (.bool false)) [rdB 0, curB l p] [] := by
 have h1 := partB_no l p n b g hp hl hw h
 refine Ct_intro Tryz.func90 rfl rfl rfl rfl rfl (fun E hn hb => ?_)
 repeat refine nx ?_
 exact rt1 []
theorem truth_yes : Ct Tryz.prog 91 [.c (.ptr 0 0)] [curB [255] 0] (.tup [lv (.bool true), lv (.int .i64 0)]) [curB [255] 1] [] := by
 have h1 := rest_ok [255] 0 (by decide) (by decide)
 refine Ct_intro Tryz.func91 rfl rfl rfl rfl rfl (fun E hn hb => ?_)
 repeat refine nx ?_
 exact rt1 []
theorem partB_yes (l : List Int) (p q : Nat) (n : Int) (b : Bool) (hp : p ≤ l.length) (hl : l.length ≤ 1000000) (hw : WfB l) (h : isT l p (2, n, b) = true) (ho : openP l p (2, n, b) = ([255], q, 0)) : Ct Tryz.prog 149 [.c (.ptr 0 0), lv (.int .i64 n), lv (.bool b), .c (.fn (.func 91) [] [])] [curB l p] (.tup [lv (.bool true), lv (.int .i64 0)]) [curB l q] [] := by
 have h1 := headaT_ok n b
 have h2 := hisT_ok l p (2, n, b) hp hl hw
 rw [h] at h2
 have h3 := open_ok l p (2, n, b) hp hl hw (by rw [ho])
 rw [ho] at h3
 have h4 := truth_yes
 have h5 := left_ok [255] 1 (by decide) (by decide)
 dsimp only at h3
 refine Ct_intro Tryz.func149 rfl rfl rfl rfl rfl (fun E hn hb => ?_)
 repeat refine nx ?_
 exact rt1 []
theorem takeB_yes (l : List Int) (p q : Nat) (n : Int) (b : Bool) (hp : p ≤ l.length) (hl : l.length ≤ 1000000) (hw : WfB l) (h : isT l p (2, n, b) = true) (ho : openP l p (2, n, b) = ([255], q, 0)) : Ct Tryz.prog 90 [.c (.ptr 0 0), lv (.int .i64 n), lv (.bool b), .c (.fn (.func 91) [] [])] [rdB 0, curB l p] (lv (.bool true)) [rdB 0, curB l q] [] := by
 have h1 := partB_yes l p q n b hp hl hw h ho
 refine Ct_intro Tryz.func90 rfl rfl rfl rfl rfl (fun E hn hb => ?_)
 repeat refine nx ?_
 exact rt1 []
end Go.Proofs.YtaagjnlkinojcaaGreat

namespace Go.Proofs.YtaagjnlkinojcaaGreat
set_option linter.unusedSimpArgs false
set_option linter.unusedVariables false
open Go Go.Sx
set_option maxRecDepth 10000
def rsN (M : Nat) : List Nat := (List.range 9).filter fun r => M.testBit r
def sumP : List Nat → Nat
 | [] => 0
 | r :: l => 2 ^ r + sumP l
def lastOf (l : List Nat) (i : Nat) : Int := match i with | 0 => -1 | k + 1 => (l.getD k 0 : Nat)
def bitsOk (M : Nat) : Bool := ((List.range 9).all fun i => if i < (rsN M).length then decide (lastOf (rsN M) i < ((rsN M).getD i 0 : Nat)) && decide ((rsN M).getD i 0 ≤ 8) && decide (sumP ((rsN M).take (i + 1)) = sumP ((rsN M).take i) + 2 ^ ((rsN M).getD i 0)) && decide (sumP ((rsN M).take i) ≤ 511) else true) && decide (sumP (rsN M) = M) && decide ((rsN M).length ≤ 9)
theorem bitsOk_all : ∀ M : Fin 512, bitsOk M.val = true := by decide +kernel
def w9 (b0 b1 b2 b3 b4 b5 b6 b7 b8 : Bool) : Nat := (if b0 then 1 else 0) + (if b1 then 2 else 0) + (if b2 then 4 else 0) + (if b3 then 8 else 0) + (if b4 then 16 else 0) + (if b5 then 32 else 0) + (if b6 then 64 else 0) + (if b7 then 128 else 0) + (if b8 then 256 else 0)
theorem w9_or : ∀ x : Fin 9, ∀ b0 b1 b2 b3 b4 b5 b6 b7 b8 : Bool, 2 ^ x.val ||| w9 b0 b1 b2 b3 b4 b5 b6 b7 b8 = w9 (decide (x.val = 0) || b0) (decide (x.val = 1) || b1) (decide (x.val = 2) || b2) (decide (x.val = 3) || b3) (decide (x.val = 4) || b4) (decide (x.val = 5) || b5) (decide (x.val = 6) || b6) (decide (x.val = 7) || b7) (decide (x.val = 8) || b8) := by decide +kernel
def mskN (m : Nat) : List Int → Nat
 | [] => m
 | x :: l => mskN (if 0 ≤ x ∧ x ≤ 8 then m ||| 2 ^ x.toNat else m) l
def w9L (l : List Int) : Nat := w9 (l.contains 0) (l.contains 1) (l.contains 2) (l.contains 3) (l.contains 4) (l.contains 5) (l.contains 6) (l.contains 7) (l.contains 8)
theorem mskN_w9 : ∀ (l : List Int) (m : Nat), mskN m l = m ||| w9L l
 | [], m => by simp [mskN, w9L, w9]
 | x :: l, m => by
   rw [mskN, mskN_w9 l]
   by_cases h : 0 ≤ x ∧ x ≤ 8
   · rw [if_pos h]
     obtain ⟨k, rfl⟩ : ∃ k : Nat, x = k := ⟨x.toNat, by omega⟩
     have hk : k < 9 := by omega
     have := w9_or ⟨k, hk⟩ (l.contains 0) (l.contains 1) (l.contains 2) (l.contains 3) (l.contains 4) (l.contains 5) (l.contains 6) (l.contains 7) (l.contains 8)
     rw [Nat.or_assoc, Int.toNat_natCast]
     dsimp only at this
     unfold w9L
     rw [this]
     refine congrArg (m ||| ·) ?_
     have e : ∀ (j : Int) (m : Nat), j = m → (((k : Nat) : Int) :: l).contains j = (decide (k = m) || l.contains j) := fun j m hj => by
       subst hj
       rw [List.contains_cons]
       congr 1
       rw [Bool.eq_iff_iff]
       simp
       omega
     rw [e 0 0 rfl, e 1 1 rfl, e 2 2 rfl, e 3 3 rfl, e 4 4 rfl, e 5 5 rfl, e 6 6 rfl, e 7 7 rfl, e 8 8 rfl]
   · rw [if_neg h]
     refine congrArg (m ||| ·) ?_
     have e : ∀ j : Int, 0 ≤ j → j ≤ 8 → (x :: l).contains j = l.contains j := fun j h1 h2 => by
       rw [List.contains_cons]
       have : (j == x) = false := by
         rw [beq_eq_false_iff_ne]
         omega
       rw [this, Bool.false_or]
     unfold w9L
     rw [e 0 (by decide) (by decide), e 1 (by decide) (by decide), e 2 (by decide) (by decide), e 3 (by decide) (by decide), e 4 (by decide) (by decide), e 5 (by decide) (by decide), e 6 (by decide) (by decide), e 7 (by decide) (by decide), e 8 (by decide) (by decide)]
def wantN (l : List Int) : Nat → Nat
 | 0 => 0
 | k + 1 => wantN l k + (if l.contains (k : Int) then 2 ^ k else 0)
theorem wantN_lt (l : List Int) : ∀ k, wantN l k < 2 ^ k
 | 0 => by simp [wantN]
 | k + 1 => by
   have := wantN_lt l k
   rw [wantN, Nat.pow_succ]
   split <;> omega
theorem wantN_w9 (l : List Int) : wantN l 9 = w9L l := by
 simp only [wantN, w9L, w9, Nat.zero_add]
 rfl
theorem mask_want (l : List Int) : mskN 0 l = wantN l 9 := by rw [mskN_w9, wantN_w9, Nat.zero_or]
theorem mskN_lt : ∀ (l : List Int) (m : Nat), m < 512 → mskN m l < 512
 | [], m, h => h
 | x :: l, m, h => by
   rw [mskN]
   refine mskN_lt l _ ?_
   split
   · rename_i hx
     have : 2 ^ x.toNat < 2 ^ 9 := Nat.pow_lt_pow_right (by decide) (by omega)
     exact Nat.or_lt_two_pow (n := 9) h this
   · exact h
def mskOk (M : Nat) : Bool := decide (mskN 0 ((rsN M).map fun (r : Nat) => (r : Int)) = M)
theorem mskOk_all : ∀ M : Fin 512, mskOk M.val = true := by decide +kernel
theorem bit_M (mask : Int) (r : Nat) (hr : r < 9) : decide ((mask / 2 ^ r) % 2 = 1) = ((mask % 512).toNat).testBit r := by
 rw [Nat.testBit_eq_decide_div_mod_eq, Bool.eq_iff_iff]
 simp only [decide_eq_true_eq]
 match r, hr with
 | 0, _ => simp only [Int.pow_zero, Nat.pow_zero]; omega
 | 1, _ => simp only [show (2 : Int) ^ 1 = 2 from rfl, show 2 ^ 1 = 2 from rfl]; omega
 | 2, _ => simp only [show (2 : Int) ^ 2 = 4 from rfl, show 2 ^ 2 = 4 from rfl]; omega
 | 3, _ => simp only [show (2 : Int) ^ 3 = 8 from rfl, show 2 ^ 3 = 8 from rfl]; omega
 | 4, _ => simp only [show (2 : Int) ^ 4 = 16 from rfl, show 2 ^ 4 = 16 from rfl]; omega
 | 5, _ => simp only [show (2 : Int) ^ 5 = 32 from rfl, show 2 ^ 5 = 32 from rfl]; omega
 | 6, _ => simp only [show (2 : Int) ^ 6 = 64 from rfl, show 2 ^ 6 = 64 from rfl]; omega
 | 7, _ => simp only [show (2 : Int) ^ 7 = 128 from rfl, show 2 ^ 7 = 128 from rfl]; omega
 | 8, _ => simp only [show (2 : Int) ^ 8 = 256 from rfl, show 2 ^ 8 = 256 from rfl]; omega
abbrev IL (l : List Int) : Av := .c (.lf (.ints .i64 l))
theorem orM : ∀ m : Fin 512, ∀ r : Fin 9, IntKind.i64.wrap (BitVec.ofInt IntKind.i64.bits ((m.val : Nat) : Int) ||| BitVec.ofInt IntKind.i64.bits (1 * 2 ^ min (((r.val : Nat) : Int).toNat) IntKind.i64.bits)).toNat = ((m.val ||| 2 ^ r.val : Nat) : Int) := by decide +kernel
theorem shM : ∀ r : Fin 9, IntKind.i64.wrap (1 * 2 ^ min (((r.val : Nat) : Int).toNat) IntKind.i64.bits) = 1 * 2 ^ min (((r.val : Nat) : Int).toNat) IntKind.i64.bits ∧ 1 * 2 ^ min (((r.val : Nat) : Int).toNat) IntKind.i64.bits = ((2 ^ r.val : Nat) : Int) ∧ 2 ^ r.val ≤ 256 := by decide +kernel
theorem andM (s : Nat) (hs : s ≤ 9) (X : Int) : IntKind.i64.wrap (BitVec.ofInt IntKind.i64.bits X &&& BitVec.ofInt IntKind.i64.bits (2 ^ s - 1)).toNat = X % 2 ^ s := by
 have h1 : (BitVec.ofInt IntKind.i64.bits X &&& BitVec.ofInt IntKind.i64.bits (2 ^ s - 1)).toNat = (X % 18446744073709551616).toNat % 2 ^ s := by
   rw [BitVec.toNat_and]
   have e1 : (BitVec.ofInt IntKind.i64.bits X).toNat = (X % 18446744073709551616).toNat := by
     rw [BitVec.toNat_ofInt]; rfl
   have e2 : (BitVec.ofInt IntKind.i64.bits ((2 : Int) ^ s - 1)).toNat = 2 ^ s - 1 := by
     have key : ∀ k : Fin 10, (BitVec.ofInt IntKind.i64.bits ((2 : Int) ^ k.val - 1)).toNat = 2 ^ k.val - 1 := by decide +kernel
     exact key ⟨s, by omega⟩
   rw [e1, e2, Nat.and_two_pow_sub_one_eq_mod]
 rw [h1]
 have key : ∀ k : Fin 10, (2 : Int) ^ k.val ∣ 18446744073709551616 ∧ 2 ^ k.val ≤ 512 := by decide +kernel
 obtain ⟨k1, k2⟩ := key ⟨s, by omega⟩
 dsimp only at k1 k2
 have h2 : ((X % 18446744073709551616).toNat % 2 ^ s : Nat) < 512 := by
   have := Nat.mod_lt (X % 18446744073709551616).toNat (Nat.two_pow_pos s)
   omega
 have h3 : (((X % 18446744073709551616).toNat % 2 ^ s : Nat) : Int) = X % 2 ^ s := by
   rw [Int.natCast_emod, Int.toNat_of_nonneg (by omega)]
   have : ((2 ^ s : Nat) : Int) = 2 ^ s := by simp
   rw [this]
   exact Int.emod_emod_of_dvd X k1
 rw [← h3]
 generalize (X % 18446744073709551616).toNat % 2 ^ s = z at *
 simp only [IntKind.wrap, IntKind.signed, IntKind.bits]
 simp
 omega
theorem few16_ok (l : List Int) (hl : l.length ≤ 9223372036854775807) : Ct Tryz.prog 9 [IL l] [] (IL (l.take 20)) [] [] := by
 have e1 : l.take (min (l.length : Int) 20).toNat = l.take 20 := by
   rcases Nat.le_total l.length 20 with h | h
   · rw [show (min (l.length : Int) 20).toNat = l.length by omega, List.take_length, List.take_of_length_le h]
   · rw [show (min (l.length : Int) 20).toNat = 20 by omega]
 rw [← e1]
 refine Ct_intro Tryz.func9 rfl rfl rfl rfl rfl (fun E hn hb => ?_)
 repeat refine nx ?_
 exact rt1 []
theorem mskN_snoc : ∀ (l : List Int) (m : Nat) (i : Nat), i < l.length → mskN m (l.take (i + 1)) = (if 0 ≤ l.getD i 0 ∧ l.getD i 0 ≤ 8 then mskN m (l.take i) ||| 2 ^ (l.getD i 0).toNat else mskN m (l.take i))
 | [], m, i, h => by simp at h
 | x :: l, m, 0, h => by simp [mskN]
 | x :: l, m, i + 1, h => by
   have := mskN_snoc l (if 0 ≤ x ∧ x ≤ 8 then m ||| 2 ^ x.toNat else m) i (by simpa using h)
   simpa [mskN] using this
set_option maxHeartbeats 4000000 in
theorem mask_ok (l : List Int) (hl : l.length ≤ 1000000) : Ct Tryz.prog 12 [IL l] [] (lv (.int .i64 ((mskN 0 l : Nat) : Int))) [] [] := by
 refine Ct_intro Tryz.func12 rfl rfl rfl rfl rfl (fun E hn hb => ?_)
 repeat refine nx ?_
 refine W_weaken (St.le_of (l := [(3, lv (.int .i64 0)), (6, IL l), (7, lv (.int .i64 (l.length : Int))), (8, lv (.int .i64 ((0 : Nat) : Int)))]) (h := []) (by refine ⟨?_, ?_⟩ <;> (repeat' (first | exact trivial | exact rfl | refine ⟨?_, ?_⟩)) <;> first | exact rfl | (simp; done) | skip)) ?_
 refine W_loop (ι := {i : Nat // i ≤ l.length}) (fun i => St.of [(3, lv (.int .i64 ((mskN 0 (l.take i.1) : Nat) : Int))), (6, IL l), (7, lv (.int .i64 (l.length : Int))), (8, lv (.int .i64 (i.1 : Int)))] []) (fun i => l.length - i.1) (fun i => ?_) ⟨0, by omega⟩
 obtain ⟨i, hi⟩ := i
 dsimp only
 by_cases hi2 : i < l.length
 · have hnx := mskN_snoc l 0 i hi2
   have hlt := mskN_lt (l.take i) 0 (by decide)
   have hq : l.getD (i : Int).toNat 0 = l.getD i 0 := rfl
   generalize mskN 0 (l.take i) = m at *
   generalize l.getD i 0 = x at *
   by_cases hx : 0 ≤ x ∧ x ≤ 8
   · rw [if_pos hx] at hnx
     obtain ⟨r, rfl⟩ : ∃ r : Nat, x = r := ⟨x.toNat, by omega⟩
     obtain ⟨s1, s2, s3⟩ := shM ⟨r, by omega⟩
     have ho := orM ⟨m, hlt⟩ ⟨r, by omega⟩
     dsimp only at s1 s2 s3 ho
     rw [Int.toNat_natCast] at hnx
     repeat (first | refine nx ?_ | rw [hq])
     rw [ho, ← hnx]
     refine N_round ⟨i + 1, by omega⟩ (by dsimp only; omega) (St.le_of ⟨⟨rfl, rfl, rfl, rfl⟩, trivial⟩)
   · rw [if_neg hx] at hnx
     rcases Int.lt_or_le x 0 with h | h
     · repeat (first | refine nx ?_ | rw [hq])
       rw [← hnx]
       refine N_round ⟨i + 1, by omega⟩ (by dsimp only; omega) (St.le_of ⟨⟨rfl, rfl, rfl, rfl⟩, trivial⟩)
     · have h2 : 8 < x := by omega
       repeat (first | refine nx ?_ | rw [hq])
       rw [← hnx]
       refine N_round ⟨i + 1, by omega⟩ (by dsimp only; omega) (St.le_of ⟨⟨rfl, rfl, rfl, rfl⟩, trivial⟩)
 · obtain rfl : i = l.length := by omega
   rw [List.take_length]
   repeat refine nx ?_
   exact rt1 []
def reaL (mask : Int) (k : Nat) : List Int := ((List.range k).filter fun r => (mask % 512).toNat.testBit r).map fun (r : Nat) => (r : Int)
theorem reaL_next (mask : Int) (k : Nat) : reaL mask (k + 1) = reaL mask k ++ (if (mask % 512).toNat.testBit k = true then [(k : Int)] else []) := by
 unfold reaL
 rw [List.range_succ, List.filter_append, List.map_append]
 simp only [List.filter_cons, List.filter_nil]
 split <;> rfl
set_option maxHeartbeats 4000000 in
theorem reasons_ok (mask : Int) : Ct Tryz.prog 10 [lv (.int .i64 mask)] [] (IL (reaL mask 9)) [] [] := by
 refine Ct_intro Tryz.func10 rfl rfl rfl rfl rfl (fun E hn hb => ?_)
 repeat refine nx ?_
 refine W_own_nil 3 900 1 (.ints .i64 []) rfl rfl (.inr (.inl ⟨_, rfl⟩)) ?_
 refine W_weaken (St.le_of (l := [(0, lv (.int .i64 mask)), (3, .c (.own 900 1 0 0)), (5, lv (.int .i64 ((0 : Nat) : Int)))]) (h := [(900, .row (.ints .i64 []))]) (by refine ⟨?_, ?_⟩ <;> (repeat' (first | exact trivial | exact rfl | refine ⟨?_, ?_⟩)) <;> first | exact rfl | (simp; done) | skip)) ?_
 refine W_loop (ι := {k : Nat // k ≤ 9}) (fun k => St.of [(0, lv (.int .i64 mask)), (3, .c (.own 900 1 0 (reaL mask k.1).length)), (5, lv (.int .i64 (k.1 : Int)))] [(900, .row (.ints .i64 (reaL mask k.1)))]) (fun k => 9 - k.1) (fun k => ?_) ⟨0, by omega⟩
 obtain ⟨k, hk⟩ := k
 dsimp only
 by_cases hk2 : k < 9
 · have hnx := reaL_next mask k
   have hbt := bit_M mask k hk2
   have hlen : (reaL mask k).length ≤ 9 := by
     unfold reaL
     rw [List.length_map]
     have := List.length_filter_le (fun r => (mask % 512).toNat.testBit r) (List.range k)
     simp at this
     omega
   have hsh : mask / 2 ^ min ((k : Int).toNat) IntKind.i64.bits = mask / 2 ^ k := by
     rw [Int.toNat_natCast, show min k IntKind.i64.bits = k from Nat.min_eq_left (by simp [IntKind.bits]; omega)]
   have ha := andM 1 (by decide) (mask / 2 ^ k)
   rw [show ((2 : Int) ^ 1 - 1) = 1 from rfl, show (2 : Int) ^ 1 = 2 from rfl] at ha
   generalize reaL mask k = L at *
   cases ht : (mask % 512).toNat.testBit k with
   | true =>
     rw [ht] at hnx hbt
     rw [if_pos rfl] at hnx
     have hbt := of_decide_eq_true hbt
     repeat refine nx ?_
     rw [hsh, ha, hbt]
     repeat refine nx ?_
     refine N_round ⟨k + 1, by omega⟩ (by dsimp only; omega) (St.le_of ⟨⟨rfl, ?_, rfl⟩, ?_⟩)
     · dsimp only; rw [hnx]; rfl
     · dsimp only; rw [hnx]; rfl
   | false =>
     rw [ht] at hnx hbt
     rw [if_neg (by simp), List.append_nil] at hnx
     have hbt := of_decide_eq_false hbt
     repeat refine nx ?_
     rw [hsh, ha]
     generalize mask / 2 ^ k % 2 = z at *
     repeat refine nx ?_
     refine N_round ⟨k + 1, by omega⟩ (by dsimp only; omega) (St.le_of ⟨⟨rfl, ?_, rfl⟩, ?_⟩)
     · dsimp only; rw [hnx]; rfl
     · dsimp only; rw [hnx]; rfl
 · obtain rfl : k = 9 := by omega
   repeat refine nx ?_
   refine frzN 2 ?_
   exact rt1 []
end Go.Proofs.YtaagjnlkinojcaaGreat

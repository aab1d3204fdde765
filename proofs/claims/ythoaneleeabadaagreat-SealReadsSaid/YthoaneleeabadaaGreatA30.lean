/-
  Sealed things made and checked. The conditions: rows of bytes that a machine can hold.
-/
import Derived.Test.YthoaneleeabadaaGreatA28
import Derived.Test.YthoaneleeabadaaGreatM1
import Derived.Test.YthoaneleeabadaaGreatA24
import Derived.Test.YthoaneleeabadaaGreatW16
import Derived.Test.YthoaneleeabadaaGreatSxR
import Derived.Test.YthoaneleeabadaaGreatM3
import Derived.Test.YthoaneleeabadaaGreatA14
import Derived.Test.YthoaneleeabadaaGreatA18
namespace Go.Proofs.YthoaneleeabadaaGreat
set_option linter.unusedSimpArgs false
set_option linter.unusedVariables false
open Go.Sx
set_option maxRecDepth 10000
theorem sgl_wrap {t : List Int} (hw : WfB t) (h : sglB t = true) : ∃ (g : TagP) (x : List Int), rightT g = true ∧ x.length ≤ 16777216 ∧ t = wrapL g x := by
 unfold sglB at h
 simp at h
 have hne : t ≠ [] := by
   rintro rfl
   have := h.2
   simp [wholesP, wholesA] at this
 obtain ⟨h1, h2⟩ := wholes_read hw h.1 (by rw [h.2]; omega) hne
 have hle := readP_le t 0 (Nat.zero_le _)
 have hb := read_back (l := t) (p := 0) (q := (readP t 0).2.1) (t := (readP t 0).1.1) (n := (readP t 0).1.2) hw (by rw [← h1])
 refine ⟨(readP t 0).1.1, t.drop (readP t 0).2.1, hb.1, by simp; omega, ?_⟩
 have e := hb.2.2.2
 rw [List.drop_zero] at e
 have e2 : (readP t 0).1.2.toNat = (t.drop (readP t 0).2.1).length := by simp; omega
 rw [e2] at e
 rw [wrapL, List.append_assoc]
 exact e
theorem readP_sgl (A C : List Int) {t : List Int} (hw : WfB t) (h : sglB t = true) : (readP (A ++ (t ++ C)) A.length).2.2 = 0 ∧ A.length ≤ (readP (A ++ (t ++ C)) A.length).2.1 ∧ 0 ≤ (readP (A ++ (t ++ C)) A.length).1.2 ∧ ((readP (A ++ (t ++ C)) A.length).2.1 : Int) + (readP (A ++ (t ++ C)) A.length).1.2 = ((A.length + t.length : Nat) : Int) := by
 obtain ⟨g, x, h1, h2, rfl⟩ := sgl_wrap hw h
 rw [readP_at A x C g h1 h2]
 refine ⟨rfl, by dsimp only; omega, by dsimp only; omega, ?_⟩
 dsimp only
 simp only [wrapL, List.length_append]
 omega
theorem texP_fwd (A C : List Int) {t : List Int} (hw : WfB t) (h : sglB t = true) : texP (A ++ (t ++ C)) A.length = (t, 0, A.length + t.length) := by
 have hr := readP_sgl A C hw h
 unfold texP
 generalize readP (A ++ (t ++ C)) A.length = R at *
 obtain ⟨⟨g, n⟩, q, e⟩ := R
 dsimp only at *
 obtain ⟨rfl, h1, h2, h3⟩ := hr
 rw [if_pos rfl, if_neg (by simp only [List.length_append]; omega), List.drop_left, show q - A.length + n.toNat = t.length by omega, List.take_left, show q + n.toNat = A.length + t.length by omega]
theorem selP_fwd (A C : List Int) {s : List Int} (hs : s.length ≤ 100000) : selP (A ++ (wrapL (ofT 3) (0 :: s) ++ C)) A.length = (s, 0, A.length + (wrapL (ofT 3) (0 :: s)).length) := by
 unfold selP
 rw [bitR_fwd A C (rightS_zero s) hs]
 dsimp only
 rw [if_pos rfl, if_pos rfl]
theorem rightZ_m {t o m : List Int} (h : rightZ t o m = true) : sglB t = true ∧ rightG o m = true := by
 unfold rightZ at h
 simpa using h
theorem parZ_fwd (C : List Int) {t o m s : List Int} (hwt : WfB t) (hw : WfB m) (h : rightZ t o m = true) (hm : m.length ≤ 100000) (hs : s.length ≤ 100000) : parZ (wrPZ t o m s ++ C) 0 = ((t, o, m, s), 0, (wrPZ t o m s).length) := by
 obtain ⟨h1, h2⟩ := rightZ_m h
 have e1 := texP_fwd [] (wrapL (ofT 16) (wrapL (ofT 6) (arcsL (numsL o)) ++ m) ++ (wrapL (ofT 3) (0 :: s) ++ C)) hwt h1
 have e2 := algR_fwd t (wrapL (ofT 3) (0 :: s) ++ C) hw h2 hm
 have e3 := selP_fwd (t ++ wrapL (ofT 16) (wrapL (ofT 6) (arcsL (numsL o)) ++ m)) C hs
 rw [List.nil_append, List.length_nil, Nat.zero_add] at e1
 rw [List.length_append] at e3
 have hx : wrPZ t o m s ++ C = t ++ (wrapL (ofT 16) (wrapL (ofT 6) (arcsL (numsL o)) ++ m) ++ (wrapL (ofT 3) (0 :: s) ++ C)) := by unfold wrPZ; simp
 rw [← hx] at e1 e2
 rw [List.append_assoc, ← hx] at e3
 unfold parZ
 rw [e1]
 dsimp only
 rw [if_pos rfl, e2]
 dsimp only
 rw [if_pos rfl, e3]
 dsimp only
 rw [if_pos rfl]
 unfold wrPZ
 simp only [List.length_append]
theorem readZ_fwd {t o m s : List Int} (hwt : WfB t) (hw : WfB m) (h : rightZ t o m = true) (ht : t.length ≤ 100000) (hm : m.length ≤ 100000) (hs : s.length ≤ 100000) : readZ (wrapL (ofT 16) (wrPZ t o m s)) 0 = ((t, o, m, s), 0, (wrapL (ofT 16) (wrPZ t o m s)).length) := by
 have hl := wrPZ_len (t := t) (s := s) (rightZ_m h).2
 have e0 := openP_at [] (wrPZ t o m s) [] (ofT 16) (by decide) (by omega)
 rw [List.append_nil, List.nil_append, List.length_nil, Nat.zero_add] at e0
 have e1 := parZ_fwd [] hwt hw h hm hs
 rw [List.append_nil] at e1
 unfold readZ
 rw [e0]
 dsimp only
 rw [if_pos rfl, e1]
 dsimp only
 rw [if_pos rfl, if_neg (by omega)]
theorem parseZ_fwd {t o m s : List Int} (hwt : WfB t) (hw : WfB m) (h : rightZ t o m = true) (ht : t.length ≤ 100000) (hm : m.length ≤ 100000) (hs : s.length ≤ 100000) : parseZ (wrapL (ofT 16) (wrPZ t o m s)) = ((t, o, m, s), 0) := by
 unfold parseZ
 rw [readZ_fwd hwt hw h ht hm hs]
 dsimp only
 rw [if_pos rfl, if_neg (by omega)]
theorem texP_back {x t : List Int} {p q : Nat} (hw : WfB x) (hp : p ≤ x.length) (h : texP x p = (t, 0, q)) : x.drop p = t ++ x.drop q ∧ sglB t = true := by
 have hle := readP_le x p hp
 have hpos := readP_pos x p hw
 unfold texP at h
 by_cases h1 : (readP x p).2.2 = 0
 · rw [if_pos h1] at h
   by_cases h2 : (x.length : Int) - ((readP x p).2.1 : Int) < (readP x p).1.2
   · rw [if_pos h2] at h; simp at h
   · rw [if_neg h2] at h
     simp only [Prod.mk.injEq] at h
     obtain ⟨rfl, _, rfl⟩ := h
     have hadv := readP_adv x p h1
     have hsp : x.drop p = (x.drop p).take ((readP x p).2.1 - p + (readP x p).1.2.toNat) ++ x.drop ((readP x p).2.1 + (readP x p).1.2.toNat) := by
       have := (List.take_append_drop ((readP x p).2.1 - p + (readP x p).1.2.toNat) (x.drop p)).symm
       rw [List.drop_drop, show p + ((readP x p).2.1 - p + (readP x p).1.2.toNat) = (readP x p).2.1 + (readP x p).1.2.toNat by omega] at this
       exact this
     refine ⟨hsp, ?_⟩
     have hb := read_back (l := x) (p := p) (q := (readP x p).2.1) (t := (readP x p).1.1) (n := (readP x p).1.2) hw (by rw [← h1])
     have hfr : (tgL (readP x p).1.1).length + (lenL (readP x p).1.2.toNat).length = (readP x p).2.1 - p := by
       have := congrArg List.length hb.2.2.2
       simp only [List.length_append, List.length_drop] at this
       omega
     have ht : (x.drop p).take ((readP x p).2.1 - p + (readP x p).1.2.toNat) = wrapL (readP x p).1.1 ((x.drop (readP x p).2.1).take (readP x p).1.2.toNat) := by
       have hl : ((x.drop (readP x p).2.1).take (readP x p).1.2.toNat).length = (readP x p).1.2.toNat := by simp; omega
       unfold wrapL
       rw [hl, hb.2.2.2, ← List.append_assoc, show (readP x p).2.1 - p = (tgL (readP x p).1.1 ++ lenL (readP x p).1.2.toNat).length by rw [List.length_append]; exact hfr.symm, List.take_length_add_append]
     rw [ht]
     have hl2 : ((x.drop (readP x p).2.1).take (readP x p).1.2.toNat).length ≤ 16777216 := by simp; omega
     generalize (x.drop (readP x p).2.1).take (readP x p).1.2.toNat = y at *
     have hr := readP_at [] y [] (readP x p).1.1 hb.1 hl2
     rw [List.append_nil, List.nil_append, List.length_nil, Nat.zero_add] at hr
     have htg : 0 < (tgL (readP x p).1.1).length := by
       unfold tgL
       split <;> simp
     have hone := wholes_one (wrapL (readP x p).1.1 y) 0 (by unfold wrapL; simp only [List.length_append]; omega) (by rw [hr]) (by rw [hr]; dsimp only; unfold wrapL; simp only [List.length_append]; omega)
     rw [List.drop_zero] at hone
     unfold sglB
     rw [hone]
     rfl
 · rw [if_neg h1] at h
   simp only [Prod.mk.injEq] at h
   exact absurd h.2.1 h1
theorem selP_back {x s : List Int} {p q : Nat} (hw : WfB x) (h : selP x p = (s, 0, q)) : x.drop p = wrapL (ofT 3) (0 :: s) ++ x.drop q := by
 unfold selP at h
 generalize hB : bitR x p = B at *
 obtain ⟨u, n, q1, e⟩ := B
 dsimp only at *
 by_cases he : e = 0
 · subst he
   rw [if_pos rfl] at h
   by_cases hu : u = 0
   · subst hu
     rw [if_pos rfl] at h
     simp only [Prod.mk.injEq] at h
     obtain ⟨rfl, _, rfl⟩ := h
     exact bitR_back hw hB
   · rw [if_neg hu] at h; simp at h
 · rw [if_neg he] at h
   simp only [Prod.mk.injEq] at h
   exact absurd h.2.1 he
theorem parZ_back {x t o m s : List Int} {q : Nat} (hw : WfB x) (h : parZ x 0 = ((t, o, m, s), 0, q)) : x = wrPZ t o m s ++ x.drop q ∧ rightZ t o m = true := by
 unfold parZ at h
 have l1 := texP_le x 0 (Nat.zero_le _) hw
 generalize hT : texP x 0 = T at *
 obtain ⟨t1, e, q1⟩ := T
 dsimp only at *
 by_cases he : e = 0
 · subst he
   rw [if_pos rfl] at h
   have hr := algR_right x q1 hw
   generalize hA : algR x q1 = A at *
   obtain ⟨o1, m1, f, q2⟩ := A
   dsimp only at *
   by_cases hf : f = 0
   · subst hf
     rw [if_pos rfl] at h
     generalize hS : selP x q2 = S at *
     obtain ⟨s1, g, q3⟩ := S
     dsimp only at *
     by_cases hg : g = 0
     · subst hg
       rw [if_pos rfl] at h
       simp only [Prod.mk.injEq] at h
       obtain ⟨⟨rfl, rfl, rfl, rfl⟩, _, rfl⟩ := h
       obtain ⟨b1, b2⟩ := texP_back hw (Nat.zero_le _) hT
       have b3 := algR_back hw hA
       have b4 := selP_back hw hS
       rw [List.drop_zero, b3, b4] at b1
       refine ⟨?_, by unfold rightZ; rw [b2, hr rfl]; rfl⟩
       unfold wrPZ
       simp only [List.append_assoc]
       simpa only [List.append_assoc] using b1
     · rw [if_neg hg] at h
       simp only [Prod.mk.injEq] at h
       exact absurd h.2.1 hg
   · rw [if_neg hf] at h
     simp only [Prod.mk.injEq] at h
     exact absurd h.2.1 hf
 · rw [if_neg he] at h
   simp only [Prod.mk.injEq] at h
   exact absurd h.2.1 he
theorem readZ_back {l t o m s : List Int} {q : Nat} (hw : WfB l) (h : readZ l 0 = ((t, o, m, s), 0, q)) : l = wrapL (ofT 16) (wrPZ t o m s) ++ l.drop q ∧ rightZ t o m = true := by
 have hm := openP_mem l 0 (ofT 16)
 unfold readZ at h
 generalize hX : openP l 0 (ofT 16) = X at *
 obtain ⟨x, q1, e⟩ := X
 dsimp only at *
 by_cases he : e = 0
 · subst he
   rw [if_pos rfl] at h
   have hxw : WfB x := fun y hy => hw y (hm.2 y hy)
   have hpl := parZ_le x 0 (Nat.zero_le _) hxw
   generalize hA : parZ x 0 = A at *
   obtain ⟨⟨t1, o1, m1, s1⟩, f, q2⟩ := A
   dsimp only at *
   by_cases hf : f = 0
   · subst hf
     rw [if_pos rfl] at h
     by_cases hq : q2 < x.length
     · rw [if_pos hq] at h; simp at h
     · rw [if_neg hq] at h
       simp only [Prod.mk.injEq] at h
       obtain ⟨⟨rfl, rfl, rfl, rfl⟩, _, rfl⟩ := h
       obtain ⟨b1, b2⟩ := parZ_back hxw hA
       rw [List.drop_eq_nil_of_le (show x.length ≤ q2 by omega), List.append_nil] at b1
       have := (open_back hw hX).2
       rw [List.drop_zero, b1] at this
       exact ⟨this, b2⟩
   · rw [if_neg hf] at h
     simp only [Prod.mk.injEq] at h
     exact absurd h.2.1 hf
 · rw [if_neg he] at h
   simp only [Prod.mk.injEq] at h
   exact absurd h.2.1 he
theorem parseZ_back {l t o m s : List Int} (hw : WfB l) (h : parseZ l = ((t, o, m, s), 0)) : l = wrapL (ofT 16) (wrPZ t o m s) ∧ rightZ t o m = true := by
 unfold parseZ at h
 dsimp only at h
 by_cases he : (readZ l 0).2.1 = 0
 · rw [if_pos he] at h
   by_cases hq : (readZ l 0).2.2 < l.length
   · rw [if_pos hq] at h; simp at h
   · rw [if_neg hq] at h
     simp only [Prod.mk.injEq, and_true] at h
     obtain ⟨b1, b2⟩ := readZ_back (q := (readZ l 0).2.2) hw (by rw [← h, ← he])
     rw [List.drop_eq_nil_of_le (show l.length ≤ (readZ l 0).2.2 by omega), List.append_nil] at b1
     exact ⟨b1, b2⟩
 · rw [if_neg he] at h
   simp only [Prod.mk.injEq] at h
   exact absurd h.2 he
theorem place_at {t o m s : List Int} (ht : t.length ≤ 100000) (hm : m.length ≤ 100000) (hs : s.length ≤ 100000) (hg : rightG o m = true) : (readP (wrapL (ofT 16) (wrPZ t o m s)) 0).2.1 + (wrPZ t o m s).length = (wrapL (ofT 16) (wrPZ t o m s)).length ∧
   ((wrapL (ofT 16) (wrPZ t o m s)).drop (readP (wrapL (ofT 16) (wrPZ t o m s)) 0).2.1).take t.length = t := by
 have hl := wrPZ_len (t := t) (s := s) hg
 have hr := readP_at [] (wrPZ t o m s) [] (ofT 16) (by decide) (by omega)
 rw [List.append_nil, List.nil_append, List.length_nil, Nat.zero_add] at hr
 rw [hr]
 dsimp only
 refine ⟨by simp only [wrapL, List.length_append], ?_⟩
 rw [show wrapL (ofT 16) (wrPZ t o m s) = (tgL (ofT 16) ++ lenL (wrPZ t o m s).length) ++ wrPZ t o m s by rfl, show (tgL (ofT 16)).length + (lenL (wrPZ t o m s).length).length = (tgL (ofT 16) ++ lenL (wrPZ t o m s).length).length by rw [List.length_append], List.drop_left]
 unfold wrPZ
 rw [List.append_assoc, List.take_left]
end Go.Proofs.YthoaneleeabadaaGreat

namespace Go.Proofs.YthoaneleeabadaaGreat
set_option linter.unusedSimpArgs false
set_option linter.unusedVariables false
open Go.Sx
set_option maxRecDepth 10000
def hx1 : List Int := [101, 51, 98, 48, 99, 52, 52, 50, 57, 56, 102, 99, 49, 99, 49, 52, 57, 97, 102, 98, 102, 52, 99, 56, 57, 57, 54, 102, 98, 57, 50, 52, 50, 55, 97, 101, 52, 49, 101, 52, 54, 52, 57, 98, 57, 51, 52, 99, 97, 52, 57, 53, 57, 57, 49, 98, 55, 56, 53, 50, 98, 56, 53, 53]
def hx2 : List Int := [98, 48, 51, 52, 52, 99, 54, 49, 100, 56, 100, 98, 51, 56, 53, 51, 53, 99, 97, 56, 97, 102, 99, 101, 97, 102, 48, 98, 102, 49, 50, 98, 56, 56, 49, 100, 99, 50, 48, 48, 99, 57, 56, 51, 51, 100, 97, 55, 50, 54, 101, 57, 51, 55, 54, 99, 50, 101, 51, 50, 99, 102, 102, 55]
end Go.Proofs.YthoaneleeabadaaGreat

namespace Go.Proofs.YthoaneleeabadaaGreat
set_option linter.unusedSimpArgs false
set_option linter.unusedVariables false
open Go.Sx
set_option maxRecDepth 10000
theorem or8 {a b : Int} (ha : 0 ≤ a ∧ a < 256) (hb : 0 ≤ b ∧ b < 256) : IntKind.u8.wrap (BitVec.ofInt IntKind.u8.bits a ||| BitVec.ofInt IntKind.u8.bits b).toNat = ((a.toNat ||| b.toNat : Nat) : Int) ∧ a.toNat ||| b.toNat < 256 := by
 obtain ⟨m, rfl⟩ : ∃ n : Nat, a = n := ⟨a.toNat, by omega⟩
 obtain ⟨n, rfl⟩ : ∃ n : Nat, b = n := ⟨b.toNat, by omega⟩
 have bv8 : ∀ n : Nat, n < 256 → (BitVec.ofInt IntKind.u8.bits (n : Int)).toNat = n := by
   intro n h
   have : (BitVec.ofInt 8 (n : Int)).toNat = n := by
     rw [BitVec.ofInt_natCast, BitVec.toNat_ofNat]
     exact Nat.mod_eq_of_lt h
   exact this
 have h2 : m ||| n < 2 ^ 8 := Nat.or_lt_two_pow (by omega) (by omega)
 rw [BitVec.toNat_or, bv8 m (by omega), bv8 n (by omega), Int.toNat_natCast, Int.toNat_natCast]
 refine ⟨?_, by omega⟩
 rw [wrap_u8]
 omega
theorem or_zero {a b : Nat} : a ||| b = 0 ↔ a = 0 ∧ b = 0 := by
 constructor
 · intro h
   have h1 : a ≤ a ||| b := Nat.left_le_or
   have h2 : b ≤ a ||| b := Nat.right_le_or
   omega
 · rintro ⟨rfl, rfl⟩; rfl
theorem xI_zero {a b : Int} (ha : 0 ≤ a) (hb : 0 ≤ b) : xI a b = 0 ↔ a = b := by
 obtain ⟨m, rfl⟩ : ∃ n : Nat, a = n := ⟨a.toNat, by omega⟩
 obtain ⟨n, rfl⟩ : ∃ n : Nat, b = n := ⟨b.toNat, by omega⟩
 have e : xI (m : Int) (n : Int) = ((m ^^^ n : Nat) : Int) := rfl
 rw [e]
 constructor
 · intro h
   have h1 : m ^^^ n = 0 := by omega
   have : m = n := Nat.eq_of_testBit_eq fun i => by
     have h2 := congrArg (fun z => Nat.testBit z i) h1
     simpa using h2
   omega
 · intro h
   have : m = n := by omega
   subst this
   simp
structure SQ where
 i : Nat
 x : Int
theorem msame_ok (a b : List Int) (ha : a.length ≤ 1000000) (hb' : b.length ≤ 1000000) (hwa : WfB a) (hwb : WfB b) : Ct Tryz.prog 127 [B8 a, B8 b] [] (lv (.bool (decide (a = b)))) [] [] := by
 refine Ct_intro Tryz.func127 rfl rfl rfl rfl rfl (fun E hn hb => ?_)
 repeat (refine nst ?_)
 refine W_cond rfl (by simp) (fun hq => ?_) (fun hq => ?_)
 · have hne : a ≠ b := by intro h; subst h; simp at hq
   have e : decide (a = b) = false := by simp [hne]
   rw [e]
   repeat (refine nst ?_)
   exact rt1 []
 · have hle : a.length = b.length := by simp at hq; omega
   repeat (refine nst ?_)
   refine W_weaken (St.le_of (l := [(0, B8 a), (1, B8 b), (5, lv (.int .u8 0)), (13, lv (.int .i64 (a.length : Int))), (14, lv (.int .i64 0))]) (h := []) (by refine ⟨?_, ?_⟩ <;> (repeat' (first | exact trivial | exact rfl | refine ⟨?_, ?_⟩)) <;> first | exact rfl | (simp; done) | skip)) ?_
   refine W_loop (ι := {p : SQ // p.i ≤ a.length ∧ 0 ≤ p.x ∧ p.x < 256 ∧ (p.x = 0 ↔ a.take p.i = b.take p.i)}) (fun p => St.of [(0, B8 a), (1, B8 b), (5, lv (.int .u8 p.1.x)), (13, lv (.int .i64 (a.length : Int))), (14, lv (.int .i64 (p.1.i : Int)))] []) (fun p => a.length - p.1.i) (fun p => ?_) ⟨⟨0, 0⟩, by simp, by simp, by simp, by simp⟩
   obtain ⟨⟨i, x⟩, q1, q2, q3, q4⟩ := p
   have hi : i ≤ a.length := q1
   have hx : 0 ≤ x ∧ x < 256 := ⟨q2, q3⟩
   have hxe : x = 0 ↔ a.take i = b.take i := q4
   dsimp only
   clear q1 q2 q3 q4
   repeat (refine nst ?_)
   refine W_cond rfl (by simp) (fun hc => ?_) (fun hc => ?_)
   · have hia : i < a.length := by simpa using hc
     have hga := wf_get hwa (i : Int).toNat
     have hgb := wf_get hwb (i : Int).toNat
     obtain ⟨x1, x2⟩ := xor8 hga hgb
     obtain ⟨o1, o2⟩ := or8 hx x2
     have hxz := xI_zero hga.1 hgb.1
     have ht : a.take (i + 1) = b.take (i + 1) ↔ a.take i = b.take i ∧ a.getD (i : Int).toNat 0 = b.getD (i : Int).toNat 0 := by
       have hib : i < b.length := by omega
       have ga : a.getD i 0 = a[i] := by simp [hia]
       have gb : b.getD i 0 = b[i] := by simp [hib]
       rw [List.take_succ_eq_append_getElem hia, List.take_succ_eq_append_getElem hib, Int.toNat_natCast, ga, gb]
       constructor
       · intro h
         obtain ⟨k1, k2⟩ := List.append_inj' h rfl
         exact ⟨k1, by simpa using k2⟩
       · rintro ⟨k1, k2⟩
         rw [k1, k2]
     repeat (refine nst ?_)
     refine W_drawW 11 (by kernel_rfl) (by kernel_rfl) (by kernel_rfl) (by rw [hn]; rfl) rfl rfl ?_
     repeat (first | refine dp1 ?_ | refine dg1 ?_ | refine DrawW_nil ?_)
     repeat (refine nst ?_)
     refine N_round ⟨⟨i + 1, ((x.toNat ||| (xI (a.getD (i : Int).toNat 0) (b.getD (i : Int).toNat 0)).toNat : Nat) : Int)⟩, by dsimp only; omega, by dsimp only; omega, by dsimp only; omega, ?_⟩ (by dsimp only; omega) (St.le_of ⟨⟨rfl, rfl, ?_, rfl, rfl⟩, trivial⟩)
     · dsimp only
       rw [ht, ← hxe, ← hxz]
       have h0 : ∀ z : Nat, ((z : Nat) : Int) = 0 ↔ z = 0 := fun z => by omega
       rw [h0, or_zero]
       omega
     · dsimp only
       refine congrArg (fun y => lv (.int .u8 y)) ?_
       rw [x1]
       exact o1
   · have : i = a.length := by simp at hc; omega
     subst this
     rw [List.take_length, hle, List.take_length] at hxe
     repeat (refine nst ?_)
     refine rt2 [] ?_ ?_
     · refine congrArg (fun y => lv (.bool y)) ?_
       rw [← decide_eq_decide.2 hxe]
       exact (Bool.beq_eq_decide_eq _ _)
     · trivial

set_option maxRecDepth 10000
theorem ne32 {l : List Int} (h : l.length = 32) : l ≠ [] := fun h2 => by rw [h2] at h; simp at h
theorem mcheck_ok (k t : List Int) (bs : List (List Int)) (hk : WfB k) (hkl : k.length ≤ 1000000) (ht : WfB t) (htl : t.length ≤ 1000000) (hbs : ∀ b ∈ bs, WfB b) (hbl : bs.length ≤ 1000) (hn1 : bs.flatten.length ≤ 900000) :
   Ct Tryz.prog 93 [B8 k, B8 t, partsA bs] [] (lv (.bool (decide (tagS k bs.flatten = t)))) [] [] := by
 have htag := tag_ok k bs hk hkl hbs hbl hn1
 have hdl : (tagS k bs.flatten).length = 32 := digS_len _
 have hdw : WfB (tagS k bs.flatten) := digS_wf _
 generalize tagS k bs.flatten = D at *
 have hdn := ne32 hdl
 have d1 : (D.drop 0).take 32 = D := by rw [List.drop_zero, List.take_of_length_le (by omega)]
 have hs := msame_ok D t (by omega) htl hdw ht
 have hs2 : Ct Tryz.prog 127 [B8 ((D.drop 0).take 32), B8 t] [] (lv (.bool (decide (D = t)))) [] [] := by rw [d1]; exact hs
 refine Ct_intro Tryz.func93 rfl rfl rfl rfl rfl (fun E hn hb => ?_)
 repeat (refine nst ?_)
 refine s_call0 (htag) rfl rfl rfl (by rw [hn]; rfl) rfl rfl (by exact vcs) rfl rfl rfl ?_
 refine s_allocAN .u8 32 rfl rfl rfl (by rw [hn]; rfl) (by kernel_rfl) ?_
 repeat (refine nst ?_)
 refine s_storeA rfl rfl rfl rfl rfl (by exact vcs) rfl (by rw [cellsOf46]; first | rfl | assumption | omega | kernel_rfl | (simp; done) | (simp; omega) | (simp at *; omega)) (by first | rfl | assumption | omega | kernel_rfl | (simp; done) | (simp; omega) | (simp at *; omega)) (by first | assumption | (simp; done) | exact List.cons_ne_nil _ _) ?_
 repeat (refine nst ?_)
 refine sp true rfl rfl (by rw [hn]; rfl) ?_ ?_
 · exact ⟨rfl, by omega, hdn, show 32 ≤ maxLen from by decide⟩
 repeat (refine nst ?_)
 refine WL_q (opq_of (opy_callL hs2 rfl rfl rfl (by trivial) ⟨.inr (.inl ⟨71, 0, 32, .u8, D, rfl, rfl, by omega, rfl⟩), .inl rfl, trivial⟩ rfl) rfl) (by rw [hn]; rfl) ?_
 repeat (refine nst ?_)
 exact rt1 []

set_option maxRecDepth 10000
theorem tget_no (es : MapL) (n : List Int) (hn1 : n.length ≤ 64) (hf : findM es (strOfNums n) = none) :
   Ct Tryz.prog 65 [.c (.ptr 0 0), B8 n] [tabB, .map es] (.tup [B8 [], lv (.int .i64 14)]) [tabB, .map es] [] := by
 refine Ct_intro Tryz.func65 rfl rfl rfl rfl rfl (fun E hn hb => ?_)
 repeat refine nxm ?_
 exact rtU []
theorem frcN3 {E : Env} {Q : Exit → Act → World → Prop} {σ : St} {d : Leaf} {cs cs' : List Cell} {m : Nat} {e : Exit} (j K : Nat) (h : N E Q e ((σ.kill j).seth K (.cells cs'))) (hj : σ.hp j = .row d := by exact rfl) (hK : σ.hp K = .cells cs := by exact rfl) (hne : Nat.beq K j = false := by exact rfl) (hnb : E.nb = m := by exact hb) (hjn : Nat.ble m j = true := by exact rfl) (hl : (List.range m).all (fun i => match σ.hp i with | .gone => false | _ => true) = true := by exact rfl) (hc : cs.all (condK j d) = true := by exact rfl)
   (hf : forceCL (cs.map (frzK j d)) some = some cs' := by exact rfl) (hp : AllP (lensK j d cs) := by first | trivial | exact rfl | (simp [lensK, AllP, lenD]; done)) : N E Q e σ := fun a w hS => h a w (SR.frzc j K hj hK hne hnb hjn hl hc hp hf hS)
abbrev hmO : List Int := [1, 2, 840, 113549, 2, 9]
set_option maxHeartbeats 4000000 in
theorem smake_ok (es : MapL) (n k x : List Int) (hn1 : n.length ≤ 64) (hk : k.length ≤ 256) (hkw : WfB k) (hx : x.length ≤ 100000) (hxw : WfB x) (hf : findM es (strOfNums n) = some (.ints .u8 k)) (hs : sglB x = true) :
   Ct Tryz.prog 34 [.c (.ptr 0 0), B8 n, B8 x] [tabB, .map es] (.tup [sealA x hmO [5, 0] (tagS k x), lv (.int .i64 0)]) [tabB, .map es] [] := by
 have h1 := single_ok x hx hxw
 rw [hs] at h1
 have h2 := tget_ok es n k hn1 hk hf
 have h3 := tag_ok k [x] hkw (by omega) (by simpa using hxw) (by simp) (by simp; omega)
 rw [show [x].flatten = x by simp] at h3
 have h4 := clone_ok x (by omega)
 have h5 := hmac_ok
 have hdl : (tagS k x).length = 32 := digS_len _
 have hdw : WfB (tagS k x) := digS_wf _
 generalize tagS k x = D at *
 have hdn := ne32 hdl
 refine Ct_intro Tryz.func34 rfl rfl rfl rfl rfl (fun E hn hb => ?_)
 refine nxm ?_
 refine nxm ?_
 refine nxm ?_
 refine nxm ?_
 repeat (first | refine s_allocAN .u8 32 rfl rfl rfl (by rw [hn]; rfl) (by kernel_rfl) ?_ | refine nxm ?_)
 refine s_storeA rfl rfl rfl rfl rfl (by exact vcs) rfl (by rw [cellsOf46]; first | rfl | assumption | omega | kernel_rfl | (simp; done) | (simp; omega) | (simp at *; omega)) (by first | rfl | assumption | omega | kernel_rfl | (simp; done) | (simp; omega) | (simp at *; omega)) (by first | assumption | (simp; done) | exact List.cons_ne_nil _ _) ?_
 repeat refine nxm ?_
 refine dup1 (hp := ?_) ?_
 rotate_left
 · exact ⟨rfl, by omega, hdn, show 32 ≤ maxLen from by decide⟩
 repeat refine nxm ?_
 refine frcN3 74 70 ?_ (hp := ?_)
 rotate_left
 · exact hdl.symm
 exact rt1 []
def chkZ (k t o m s : List Int) : Int := if tagS k t = s then 0 else 13
set_option maxHeartbeats 4000000 in
theorem scheck_ok (es : MapL) (n k t o m s : List Int) (hn1 : n.length ≤ 64) (hk : k.length ≤ 256) (hkw : WfB k) (ht : t.length ≤ 100000) (hwt : WfB t) (ho : o.length ≤ 1000000) (hm : m.length ≤ 100000) (hw : WfB m) (hs : s.length ≤ 100000) (hws : WfB s)
   (hf : findM es (strOfNums n) = some (.ints .u8 k)) (ha : rightG o m = true) (he : (wrG o m).1 = (wrG hmO [5, 0]).1) :
   Ct Tryz.prog 39 [.c (.ptr 0 0), B8 n, sealA t o m s] [tabB, .map es] (lv (.int .i64 (chkZ k t o m s))) [tabB, .map es] [] := by
 have h1 := hmac_ok
 have h2 := samealg_ok o m hmO [5, 0] ho hm hw (by decide) (by decide) (wf18 (by decide +kernel)) ha ex_r2
 rw [decide_eq_true he] at h2
 have h3 := tget_ok es n k hn1 hk hf
 have h4 := mcheck_ok k s [t] hkw (by omega) hws (by omega) (by simpa using hwt) (by simp) (by simp; omega)
 rw [show [t].flatten = t by simp] at h4
 unfold chkZ
 by_cases hq : tagS k t = s
 · rw [decide_eq_true hq] at h4
   rw [if_pos hq]
   refine Ct_intro Tryz.func39 rfl rfl rfl rfl rfl (fun E hn hb => ?_)
   repeat refine nxm ?_
   exact rt1 []
 · rw [decide_eq_false hq] at h4
   rw [if_neg hq]
   refine Ct_intro Tryz.func39 rfl rfl rfl rfl rfl (fun E hn hb => ?_)
   repeat refine nxm ?_
   exact rt1 []
theorem scheck_none (es : MapL) (n t o m s : List Int) (hn1 : n.length ≤ 64) (ho : o.length ≤ 1000000) (hm : m.length ≤ 100000) (hw : WfB m)
   (hf : findM es (strOfNums n) = none) (ha : rightG o m = true) (he : (wrG o m).1 = (wrG hmO [5, 0]).1) :
   Ct Tryz.prog 39 [.c (.ptr 0 0), B8 n, sealA t o m s] [tabB, .map es] (lv (.int .i64 14)) [tabB, .map es] [] := by
 have h1 := hmac_ok
 have h2 := samealg_ok o m hmO [5, 0] ho hm hw (by decide) (by decide) (wf18 (by decide +kernel)) ha ex_r2
 rw [decide_eq_true he] at h2
 have h3 := tget_no es n hn1 hf
 refine Ct_intro Tryz.func39 rfl rfl rfl rfl rfl (fun E hn hb => ?_)
 repeat refine nxm ?_
 exact rt1 []
end Go.Proofs.YthoaneleeabadaaGreat

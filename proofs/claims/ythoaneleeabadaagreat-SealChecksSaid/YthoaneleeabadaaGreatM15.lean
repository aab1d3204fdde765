/-
  Chapter 12: tags checked, the document's tags. The conditions: bytes that are bytes, at most half a million of them.
-/
import Derived.Test.YthoaneleeabadaaGreatA28
import Derived.Test.YthoaneleeabadaaGreatA11
import Derived.Test.YthoaneleeabadaaGreatM7
import Derived.Test.YthoaneleeabadaaGreatW16
import Derived.Test.YthoaneleeabadaaGreatSxR
import Derived.Test.YthoaneleeabadaaGreatM10
namespace Go.Proofs.YthoaneleeabadaaGreat
set_option linter.unusedSimpArgs false
set_option linter.unusedVariables false
open Go.Sx
set_option maxRecDepth 10000
theorem sgl_wrap {t : List Int} (hw : WfB t) (h : sglB t = true) : ∃ (g : TagP) (x : List Int), rightT g = true ∧ x.length ≤ 16777216 ∧ t = wrapL g x := by
 unfold sglB at h
 simp at h
 have hne : t ≠ [] := by
   rintro rfl
   have := h.2
   simp [wholesP, wholesA] at this
 obtain ⟨h1, h2⟩ := wholes_read hw h.1 (by rw [h.2]; omega) hne
 have hle := readP_le t 0 (Nat.zero_le _)
 have hb := read_back (l := t) (p := 0) (q := (readP t 0).2.1) (t := (readP t 0).1.1) (n := (readP t 0).1.2) hw (by rw [← h1])
 refine ⟨(readP t 0).1.1, t.drop (readP t 0).2.1, hb.1, by simp; omega, ?_⟩
 have e := hb.2.2.2
 rw [List.drop_zero] at e
 have e2 : (readP t 0).1.2.toNat = (t.drop (readP t 0).2.1).length := by simp; omega
 rw [e2] at e
 rw [wrapL, List.append_assoc]
 exact e
theorem readP_sgl (A C : List Int) {t : List Int} (hw : WfB t) (h : sglB t = true) : (readP (A ++ (t ++ C)) A.length).2.2 = 0 ∧ A.length ≤ (readP (A ++ (t ++ C)) A.length).2.1 ∧ 0 ≤ (readP (A ++ (t ++ C)) A.length).1.2 ∧ ((readP (A ++ (t ++ C)) A.length).2.1 : Int) + (readP (A ++ (t ++ C)) A.length).1.2 = ((A.length + t.length : Nat) : Int) := by
 obtain ⟨g, x, h1, h2, rfl⟩ := sgl_wrap hw h
 rw [readP_at A x C g h1 h2]
 refine ⟨rfl, by dsimp only; omega, by dsimp only; omega, ?_⟩
 dsimp only
 simp only [wrapL, List.length_append]
 omega
theorem texP_fwd (A C : List Int) {t : List Int} (hw : WfB t) (h : sglB t = true) : texP (A ++ (t ++ C)) A.length = (t, 0, A.length + t.length) := by
 have hr := readP_sgl A C hw h
 unfold texP
 generalize readP (A ++ (t ++ C)) A.length = R at *
 obtain ⟨⟨g, n⟩, q, e⟩ := R
 dsimp only at *
 obtain ⟨rfl, h1, h2, h3⟩ := hr
 rw [if_pos rfl, if_neg (by simp only [List.length_append]; omega), List.drop_left, show q - A.length + n.toNat = t.length by omega, List.take_left, show q + n.toNat = A.length + t.length by omega]
theorem selP_fwd (A C : List Int) {s : List Int} (hs : s.length ≤ 100000) : selP (A ++ (wrapL (ofT 3) (0 :: s) ++ C)) A.length = (s, 0, A.length + (wrapL (ofT 3) (0 :: s)).length) := by
 unfold selP
 rw [bitR_fwd A C (rightS_zero s) hs]
 dsimp only
 rw [if_pos rfl, if_pos rfl]
theorem rightZ_m {t o m : List Int} (h : rightZ t o m = true) : sglB t = true ∧ rightG o m = true := by
 unfold rightZ at h
 simpa using h
theorem parZ_fwd (C : List Int) {t o m s : List Int} (hwt : WfB t) (hw : WfB m) (h : rightZ t o m = true) (hm : m.length ≤ 100000) (hs : s.length ≤ 100000) : parZ (wrPZ t o m s ++ C) 0 = ((t, o, m, s), 0, (wrPZ t o m s).length) := by
 obtain ⟨h1, h2⟩ := rightZ_m h
 have e1 := texP_fwd [] (wrapL (ofT 16) (wrapL (ofT 6) (arcsL (numsL o)) ++ m) ++ (wrapL (ofT 3) (0 :: s) ++ C)) hwt h1
 have e2 := algR_fwd t (wrapL (ofT 3) (0 :: s) ++ C) hw h2 hm
 have e3 := selP_fwd (t ++ wrapL (ofT 16) (wrapL (ofT 6) (arcsL (numsL o)) ++ m)) C hs
 rw [List.nil_append, List.length_nil, Nat.zero_add] at e1
 rw [List.length_append] at e3
 have hx : wrPZ t o m s ++ C = t ++ (wrapL (ofT 16) (wrapL (ofT 6) (arcsL (numsL o)) ++ m) ++ (wrapL (ofT 3) (0 :: s) ++ C)) := by unfold wrPZ; simp
 rw [← hx] at e1 e2
 rw [List.append_assoc, ← hx] at e3
 unfold parZ
 rw [e1]
 dsimp only
 rw [if_pos rfl, e2]
 dsimp only
 rw [if_pos rfl, e3]
 dsimp only
 rw [if_pos rfl]
 unfold wrPZ
 simp only [List.length_append]
theorem readZ_fwd {t o m s : List Int} (hwt : WfB t) (hw : WfB m) (h : rightZ t o m = true) (ht : t.length ≤ 100000) (hm : m.length ≤ 100000) (hs : s.length ≤ 100000) : readZ (wrapL (ofT 16) (wrPZ t o m s)) 0 = ((t, o, m, s), 0, (wrapL (ofT 16) (wrPZ t o m s)).length) := by
 have hl := wrPZ_len (t := t) (s := s) (rightZ_m h).2
 have e0 := openP_at [] (wrPZ t o m s) [] (ofT 16) (by decide) (by omega)
 rw [List.append_nil, List.nil_append, List.length_nil, Nat.zero_add] at e0
 have e1 := parZ_fwd [] hwt hw h hm hs
 rw [List.append_nil] at e1
 unfold readZ
 rw [e0]
 dsimp only
 rw [if_pos rfl, e1]
 dsimp only
 rw [if_pos rfl, if_neg (by omega)]
theorem parseZ_fwd {t o m s : List Int} (hwt : WfB t) (hw : WfB m) (h : rightZ t o m = true) (ht : t.length ≤ 100000) (hm : m.length ≤ 100000) (hs : s.length ≤ 100000) : parseZ (wrapL (ofT 16) (wrPZ t o m s)) = ((t, o, m, s), 0) := by
 unfold parseZ
 rw [readZ_fwd hwt hw h ht hm hs]
 dsimp only
 rw [if_pos rfl, if_neg (by omega)]

def hx1 : List Int := [101, 51, 98, 48, 99, 52, 52, 50, 57, 56, 102, 99, 49, 99, 49, 52, 57, 97, 102, 98, 102, 52, 99, 56, 57, 57, 54, 102, 98, 57, 50, 52, 50, 55, 97, 101, 52, 49, 101, 52, 54, 52, 57, 98, 57, 51, 52, 99, 97, 52, 57, 53, 57, 57, 49, 98, 55, 56, 53, 50, 98, 56, 53, 53]
def hx2 : List Int := [98, 48, 51, 52, 52, 99, 54, 49, 100, 56, 100, 98, 51, 56, 53, 51, 53, 99, 97, 56, 97, 102, 99, 101, 97, 102, 48, 98, 102, 49, 50, 98, 56, 56, 49, 100, 99, 50, 48, 48, 99, 57, 56, 51, 51, 100, 97, 55, 50, 54, 101, 57, 51, 55, 54, 99, 50, 101, 51, 50, 99, 102, 102, 55]

def n0 : Nat := 0
theorem or8 {a b : Int} (ha : 0 ≤ a ∧ a < 256) (hb : 0 ≤ b ∧ b < 256) : IntKind.u8.wrap (BitVec.ofInt IntKind.u8.bits a ||| BitVec.ofInt IntKind.u8.bits b).toNat = ((a.toNat ||| b.toNat : Nat) : Int) ∧ a.toNat ||| b.toNat < 256 := by
 obtain ⟨m, rfl⟩ : ∃ n : Nat, a = n := ⟨a.toNat, by omega⟩
 obtain ⟨n, rfl⟩ : ∃ n : Nat, b = n := ⟨b.toNat, by omega⟩
 have bv8 : ∀ n : Nat, n < 256 → (BitVec.ofInt IntKind.u8.bits (n : Int)).toNat = n := by
   intro n h
   have : (BitVec.ofInt 8 (n : Int)).toNat = n := by
     rw [BitVec.ofInt_natCast, BitVec.toNat_ofNat]
     exact Nat.mod_eq_of_lt h
   exact this
 have h2 : m ||| n < 2 ^ 8 := Nat.or_lt_two_pow (by omega) (by omega)
 rw [BitVec.toNat_or, bv8 m (by omega), bv8 n (by omega), Int.toNat_natCast, Int.toNat_natCast]
 refine ⟨?_, by omega⟩
 rw [wrap_u8]
 omega
theorem or_zero {a b : Nat} : a ||| b = 0 ↔ a = 0 ∧ b = 0 := by
 constructor
 · intro h
   have h1 : a ≤ a ||| b := Nat.left_le_or
   have h2 : b ≤ a ||| b := Nat.right_le_or
   omega
 · rintro ⟨rfl, rfl⟩; rfl
theorem xI_zero {a b : Int} (ha : 0 ≤ a) (hb : 0 ≤ b) : xI a b = 0 ↔ a = b := by
 obtain ⟨m, rfl⟩ : ∃ n : Nat, a = n := ⟨a.toNat, by omega⟩
 obtain ⟨n, rfl⟩ : ∃ n : Nat, b = n := ⟨b.toNat, by omega⟩
 have e : xI (m : Int) (n : Int) = ((m ^^^ n : Nat) : Int) := rfl
 rw [e]
 constructor
 · intro h
   have h1 : m ^^^ n = 0 := by omega
   have : m = n := Nat.eq_of_testBit_eq fun i => by
     have h2 := congrArg (fun z => Nat.testBit z i) h1
     simpa using h2
   omega
 · intro h
   have : m = n := by omega
   subst this
   simp
structure SQ where
 i : Nat
 x : Int
theorem msame_ok (a b : List Int) (ha : a.length ≤ 1000000) (hb' : b.length ≤ 1000000) (hwa : WfB a) (hwb : WfB b) : Ct Tryz.prog 127 [B8 a, B8 b] [] (lv (.bool (decide (a = b)))) [] [] := by
 refine Ct_intro Tryz.func127 rfl rfl rfl rfl rfl (fun E hn hb => ?_)
 repeat (refine nst ?_)
 refine W_cond rfl (by simp) (fun hq => ?_) (fun hq => ?_)
 · have hne : a ≠ b := by intro h; subst h; simp at hq
   have e : decide (a = b) = false := by simp [hne]
   rw [e]
   repeat (refine nst ?_)
   exact rt1 []
 · have hle : a.length = b.length := by simp at hq; omega
   repeat (refine nst ?_)
   refine W_weaken (St.le_of (l := [(0, B8 a), (1, B8 b), (5, lv (.int .u8 0)), (13, lv (.int .i64 (a.length : Int))), (14, lv (.int .i64 0))]) (h := []) (by refine ⟨?_, ?_⟩ <;> (repeat' (first | exact trivial | exact rfl | refine ⟨?_, ?_⟩)) <;> first | exact rfl | (simp; done) | skip)) ?_
   refine W_loop (ι := {p : SQ // p.i ≤ a.length ∧ 0 ≤ p.x ∧ p.x < 256 ∧ (p.x = 0 ↔ a.take p.i = b.take p.i)}) (fun p => St.of [(0, B8 a), (1, B8 b), (5, lv (.int .u8 p.1.x)), (13, lv (.int .i64 (a.length : Int))), (14, lv (.int .i64 (p.1.i : Int)))] []) (fun p => a.length - p.1.i) (fun p => ?_) ⟨⟨0, 0⟩, by simp, by simp, by simp, by simp⟩
   obtain ⟨⟨i, x⟩, q1, q2, q3, q4⟩ := p
   have hi : i ≤ a.length := q1
   have hx : 0 ≤ x ∧ x < 256 := ⟨q2, q3⟩
   have hxe : x = 0 ↔ a.take i = b.take i := q4
   dsimp only
   clear q1 q2 q3 q4
   repeat (refine nst ?_)
   refine W_cond rfl (by simp) (fun hc => ?_) (fun hc => ?_)
   · have hia : i < a.length := by simpa using hc
     have hga := wf_get hwa (i : Int).toNat
     have hgb := wf_get hwb (i : Int).toNat
     obtain ⟨x1, x2⟩ := xor8 hga hgb
     obtain ⟨o1, o2⟩ := or8 hx x2
     have hxz := xI_zero hga.1 hgb.1
     have ht : a.take (i + 1) = b.take (i + 1) ↔ a.take i = b.take i ∧ a.getD (i : Int).toNat 0 = b.getD (i : Int).toNat 0 := by
       have hib : i < b.length := by omega
       have ga : a.getD i 0 = a[i] := by simp [hia]
       have gb : b.getD i 0 = b[i] := by simp [hib]
       rw [List.take_succ_eq_append_getElem hia, List.take_succ_eq_append_getElem hib, Int.toNat_natCast, ga, gb]
       constructor
       · intro h
         obtain ⟨k1, k2⟩ := List.append_inj' h rfl
         exact ⟨k1, by simpa using k2⟩
       · rintro ⟨k1, k2⟩
         rw [k1, k2]
     repeat (refine nst ?_)
     refine W_drawW 11 (by kernel_rfl) (by kernel_rfl) (by kernel_rfl) (by rw [hn]; rfl) rfl rfl ?_
     repeat (first | refine dp1 ?_ | refine dg1 ?_ | refine DrawW_nil ?_)
     repeat (refine nst ?_)
     refine N_round ⟨⟨i + 1, ((x.toNat ||| (xI (a.getD (i : Int).toNat 0) (b.getD (i : Int).toNat 0)).toNat : Nat) : Int)⟩, by dsimp only; omega, by dsimp only; omega, by dsimp only; omega, ?_⟩ (by dsimp only; omega) (St.le_of ⟨⟨rfl, rfl, ?_, rfl, rfl⟩, trivial⟩)
     · dsimp only
       rw [ht, ← hxe, ← hxz]
       have h0 : ∀ z : Nat, ((z : Nat) : Int) = 0 ↔ z = 0 := fun z => by omega
       rw [h0, or_zero]
       omega
     · dsimp only
       refine congrArg (fun y => lv (.int .u8 y)) ?_
       rw [x1]
       exact o1
   · have : i = a.length := by simp at hc; omega
     subst this
     rw [List.take_length, hle, List.take_length] at hxe
     repeat (refine nst ?_)
     refine rt2 [] ?_ ?_
     · refine congrArg (fun y => lv (.bool y)) ?_
       rw [← decide_eq_decide.2 hxe]
       exact (Bool.beq_eq_decide_eq _ _)
     · trivial

theorem ne32 {l : List Int} (h : l.length = 32) : l ≠ [] := fun h2 => by rw [h2] at h; simp at h
theorem mcheck_ok (k t : List Int) (bs : List (List Int)) (hk : WfB k) (hkl : k.length ≤ 1000000) (ht : WfB t) (htl : t.length ≤ 1000000) (hbs : ∀ b ∈ bs, WfB b) (hbl : bs.length ≤ 1000) (hn1 : bs.flatten.length ≤ 900000) :
   Ct Tryz.prog 93 [B8 k, B8 t, partsA bs] [] (lv (.bool (decide (tagS k bs.flatten = t)))) [] [] := by
 have htag := tag_ok k bs hk hkl hbs hbl hn1
 have hdl : (tagS k bs.flatten).length = 32 := digS_len _
 have hdw : WfB (tagS k bs.flatten) := digS_wf _
 generalize tagS k bs.flatten = D at *
 have hdn := ne32 hdl
 have d1 : (D.drop 0).take 32 = D := by rw [List.drop_zero, List.take_of_length_le (by omega)]
 have hs := msame_ok D t (by omega) htl hdw ht
 have hs2 : Ct Tryz.prog 127 [B8 ((D.drop 0).take 32), B8 t] [] (lv (.bool (decide (D = t)))) [] [] := by rw [d1]; exact hs
 refine Ct_intro Tryz.func93 rfl rfl rfl rfl rfl (fun E hn hb => ?_)
 repeat (refine nst ?_)
 refine s_call0 (htag) rfl rfl rfl (by rw [hn]; rfl) rfl rfl (by exact vcs) rfl rfl rfl ?_
 refine s_allocAN .u8 32 rfl rfl rfl (by rw [hn]; rfl) (by kernel_rfl) ?_
 repeat (refine nst ?_)
 refine s_storeA rfl rfl rfl rfl rfl (by exact vcs) rfl (by rw [cellsOf46]; first | rfl | assumption | omega | kernel_rfl | (simp; done) | (simp; omega) | (simp at *; omega)) (by first | rfl | assumption | omega | kernel_rfl | (simp; done) | (simp; omega) | (simp at *; omega)) (by first | assumption | (simp; done) | exact List.cons_ne_nil _ _) ?_
 repeat (refine nst ?_)
 refine sp true rfl rfl (by rw [hn]; rfl) ?_ ?_
 · exact ⟨rfl, by omega, hdn, show 32 ≤ maxLen from by decide⟩
 repeat (refine nst ?_)
 refine WL_q (opq_of (opy_callL hs2 rfl rfl rfl (by trivial) ⟨.inr (.inl ⟨71, 0, 32, .u8, D, rfl, rfl, by omega, rfl⟩), .inl rfl, trivial⟩ rfl) rfl) (by rw [hn]; rfl) ?_
 repeat (refine nst ?_)
 exact rt1 []
set_option maxHeartbeats 4000000 in
theorem reftag_ok (k b : List Int) (hk : WfB k) (hkl : k.length ≤ 1000000) (hb' : WfB b) (hbl : b.length ≤ 500000) : Ct Tryz.prog 92 [B8 k, B8 b] [] (.ai .u8 (tagS k b)) [] [] := by
 have hl1 := padK_len k 54
 have hl2 := padK_len k 92
 have hw1 := padK_wf hk (c := 54) (by omega)
 have hw2 := padK_wf hk (c := 92) (by omega)
 have hks := keyS_len k
 have hkw := keyS_wf hk
 have h6l := pad64_len hks
 have h6w := pad64_wf hkw
 have hg1 : ∀ i, i < 64 → (padK k 54)[i]? = some (xI ((pad64 (keyS k)).getD i 0) 54) := by
   intro i hi
   have hlt : i < (pad64 (keyS k)).length := by omega
   rw [padK, List.getElem?_map, List.getElem?_eq_getElem hlt]
   simp [hlt]
 have hg2 : ∀ i, i < 64 → (padK k 92)[i]? = some (xI ((pad64 (keyS k)).getD i 0) 92) := by
   intro i hi
   have hlt : i < (pad64 (keyS k)).length := by omega
   rw [padK, List.getElem?_map, List.getElem?_eq_getElem hlt]
   simp [hlt]
 have hqg : ∀ i, (pad64 (keyS k)).getD i 0 = if i < (keyS k).length then (keyS k).getD i 0 else 0 := by
   intro i
   unfold pad64
   rw [List.getD_eq_getElem?_getD]
   split
   · rename_i h
     rw [List.getElem?_append_left h, List.getD_eq_getElem?_getD]
   · rename_i h
     rw [List.getElem?_append_right (by omega), List.getElem?_replicate]
     split <;> rfl
 have hrk := refsum_ok k hk hkl
 have hdk := digS_len k
 have hdkn := ne32 hdk
 have eD : 64 < k.length → keyS k = digS k := fun h => by rw [keyS, if_pos h]
 have eK : ¬ 64 < k.length → keyS k = k := fun h => by rw [keyS, if_neg h]
 have htag : tagS k b = digS (padK k 92 ++ digS (padK k 54 ++ b)) := rfl
 rw [htag]
 clear htag
 generalize padK k 54 = P at *
 generalize padK k 92 = R at *
 have hr1 := refsum_ok (P ++ b) (wf_app hw1 hb') (by simp; omega)
 have hd1 := digS_len (P ++ b)
 have hdw1 := digS_wf (P ++ b)
 generalize digS (P ++ b) = D at *
 have hdn1 := ne32 hd1
 have eDt : D.take 32 = D := List.take_of_length_le (by omega)
 have hr2 := refsum_ok (R ++ D) (wf_app hw2 hdw1) (by simp; omega)
 have hd2 := digS_len (R ++ D)
 generalize digS (R ++ D) = O at *
 have hdn2 := ne32 hd2
 generalize keyS k = q at *
 generalize pad64 q = Q at *
 generalize digS k = DK at *
 refine Ct_intro Tryz.func92 rfl rfl rfl rfl rfl (fun E hn hb => ?_)
 repeat (refine nst ?_)
 refine s_allocAN .u8 32 rfl rfl rfl (by rw [hn]; rfl) (by kernel_rfl) ?_
 repeat (refine nst ?_)
 refine W_join (St.of [(0, B8 q), (1, B8 b), (4, .c (.ptr 68 0))] [(68, .row (.ints .u8 (List.replicate 32 0)))]) ?_ ?_
 · refine W_cond rfl (by simp) (fun hq => ?_) (fun hq => ?_)
   · have h64 : 64 < k.length := by simp at hq; omega
     rw [eD h64]
     repeat (refine nst ?_)
     refine s_call0 (hrk) rfl rfl rfl (by rw [hn]; rfl) rfl rfl (by exact vcs) rfl rfl rfl ?_
     refine s_allocAN .u8 32 rfl rfl rfl (by rw [hn]; rfl) (by kernel_rfl) ?_
     repeat (refine nst ?_)
     refine s_storeA rfl rfl rfl rfl rfl (by exact vcs) rfl (by rw [cellsOf46]; first | rfl | assumption | omega | kernel_rfl | (simp; done) | (simp; omega) | (simp at *; omega)) (by first | rfl | assumption | omega | kernel_rfl | (simp; done) | (simp; omega) | (simp at *; omega)) (by first | assumption | (simp; done) | exact List.cons_ne_nil _ _) ?_
     repeat (refine nst ?_)
     refine sp true rfl rfl (by rw [hn]; rfl) ?_ ?_
     · exact ⟨rfl, by omega, hdkn, show 32 ≤ maxLen from by decide⟩
     repeat (refine nst ?_)
     refine N_freeze 69 [(0, B8 DK)] rfl hb ⟨⟨rfl, rfl, rfl, by omega, by rw [List.drop_zero, List.take_of_length_le (by omega)]⟩, rfl⟩ ?_
     (refine N_join ?_; refine St.le_of ⟨?_, ?_⟩ <;> (repeat' (first | exact trivial | exact rfl | refine ⟨?_, ?_⟩)) <;> first | exact rfl | (simp; done) | skip)
   · have h64 : ¬ 64 < k.length := by simp at hq; omega
     rw [eK h64]
     repeat (refine nst ?_)
     (refine N_join ?_; refine St.le_of ⟨?_, ?_⟩ <;> (repeat' (first | exact trivial | exact rfl | refine ⟨?_, ?_⟩)) <;> first | exact rfl | (simp; done) | skip)
 repeat (refine nst ?_)
 refine W_own_nil 6 300 1 (.ints .u8 []) rfl rfl (.inl rfl) ?_
 refine W_own_nil 7 301 1 (.ints .u8 []) rfl rfl (.inl rfl) ?_
 refine W_weaken (St.le_of (l := [(0, B8 q), (1, B8 b), (4, .c (.ptr 68 0)), (6, .c (.own 300 1 0 0)), (7, .c (.own 301 1 0 0)), (8, lv (.int .i64 0))]) (h := [(68, .row (.ints .u8 (List.replicate 32 0))), (300, .row (.ints .u8 [])), (301, .row (.ints .u8 []))]) (by refine ⟨?_, ?_⟩ <;> (repeat' (first | exact trivial | exact rfl | refine ⟨?_, ?_⟩)) <;> first | exact rfl | (simp; done) | skip)) ?_
 refine W_loop (ι := {i : Nat // i ≤ 64}) (fun i => St.of [(0, B8 q), (1, B8 b), (4, .c (.ptr 68 0)), (6, .c (.own 300 1 0 (P.take i.1).length)), (7, .c (.own 301 1 0 (R.take i.1).length)), (8, lv (.int .i64 (i.1 : Int)))] [(68, .row (.ints .u8 (List.replicate 32 0))), (300, .row (.ints .u8 (P.take i.1))), (301, .row (.ints .u8 (R.take i.1)))]) (fun i => 64 - i.1) (fun i => ?_) ⟨0, by omega⟩
 obtain ⟨i, hi⟩ := i
 dsimp only
 repeat (refine nst ?_)
 refine W_cond rfl (by simp) (fun hc => ?_) (fun hc => ?_)
 · have hi64 : i < 64 := by simp at hc; omega
   have hby := wf_get h6w i
   obtain ⟨x1, x2⟩ := xor8 hby (show (0 : Int) ≤ 54 ∧ (54 : Int) < 256 by omega)
   obtain ⟨y1, y2⟩ := xor8 hby (show (0 : Int) ≤ 92 ∧ (92 : Int) < 256 by omega)
   have g1 := hg1 i hi64
   have g2 := hg2 i hi64
   have hqi := hqg i
   have t1 : P.take i ++ [xI (Q.getD i 0) 54] = P.take (i + 1) := by
     have hlt : i < P.length := by omega
     rw [List.getElem?_eq_getElem hlt] at g1
     rw [List.take_succ_eq_append_getElem hlt, Option.some.inj g1]
   have t2 : R.take i ++ [xI (Q.getD i 0) 92] = R.take (i + 1) := by
     have hlt : i < R.length := by omega
     rw [List.getElem?_eq_getElem hlt] at g2
     rw [List.take_succ_eq_append_getElem hlt, Option.some.inj g2]
   clear g1 g2
   generalize Q.getD i 0 = c at *
   repeat (refine nst ?_)
   refine W_join (St.of [(0, B8 q), (1, B8 b), (4, .c (.ptr 68 0)), (6, .c (.own 300 1 0 (P.take i).length)), (7, .c (.own 301 1 0 (R.take i).length)), (8, lv (.int .i64 (i : Int))), (9, lv (.int .u8 c))] [(68, .row (.ints .u8 (List.replicate 32 0))), (300, .row (.ints .u8 (P.take i))), (301, .row (.ints .u8 (R.take i)))]) ?_ ?_
   · refine W_cond rfl (by simp) (fun hu => ?_) (fun hu => ?_)
     · have hiq : i < q.length := by simpa using hu
       rw [if_pos hiq] at hqi
       have hgi : q.getD (i : Int).toNat 0 = c := by rw [Int.toNat_natCast]; exact hqi.symm
       repeat (refine nst ?_)
       rw [hgi]
       repeat (refine nst ?_)
       (refine N_join ?_; refine St.le_of ⟨?_, ?_⟩ <;> (repeat' (first | exact trivial | exact rfl | refine ⟨?_, ?_⟩)) <;> first | exact rfl | (simp; done) | skip)
     · have hiq : ¬ i < q.length := by simp at hu; omega
       rw [if_neg hiq] at hqi
       subst hqi
       repeat (refine nst ?_)
       (refine N_join ?_; refine St.le_of ⟨?_, ?_⟩ <;> (repeat' (first | exact trivial | exact rfl | refine ⟨?_, ?_⟩)) <;> first | exact rfl | (simp; done) | skip)
   repeat (refine nst ?_)
   rw [x1]
   refine s_litI rfl rfl rfl (by rw [hn]; rfl) (elt_mk Tryz.underlying23 rfl rfl) (zok5) (by exact vcs) ⟨by decide, rfl⟩ ?_
   repeat (refine nst ?_)
   refine s_appI rfl rfl rfl rfl rfl rfl (by rw [hn]; rfl) (elt_mk Tryz.underlying23 rfl rfl) rfl rfl rfl rfl (by exact vcs) (by first | rfl | (simp; done) | (simp; omega)) ⟨by first | (simp; done) | (simp; omega) | (simp at *; omega), by decide⟩ ?_
   repeat (refine nst ?_)
   rw [y1]
   refine s_litI rfl rfl rfl (by rw [hn]; rfl) (elt_mk Tryz.underlying23 rfl rfl) (zok5) (by exact vcs) ⟨by decide, rfl⟩ ?_
   repeat (refine nst ?_)
   refine s_appI rfl rfl rfl rfl rfl rfl (by rw [hn]; rfl) (elt_mk Tryz.underlying23 rfl rfl) rfl rfl rfl rfl (by exact vcs) (by first | rfl | (simp; done) | (simp; omega)) ⟨by first | (simp; done) | (simp; omega) | (simp at *; omega), by decide⟩ ?_
   repeat (refine nst ?_)
   refine N_round ⟨i + 1, by omega⟩ (by dsimp only; omega) (St.le_of ⟨⟨rfl, rfl, rfl, congrArg (fun E : List Int => Av.c (.own 300 1 0 E.length)) t1, congrArg (fun E : List Int => Av.c (.own 301 1 0 E.length)) t2, rfl⟩, ⟨rfl, congrArg (fun l => Blk.row (.ints .u8 l)) t1, congrArg (fun l => Blk.row (.ints .u8 l)) t2⟩⟩)
 · have h64 : i = 64 := by simp at hc; omega
   subst h64
   rw [List.take_of_length_le (show P.length ≤ 64 by omega), List.take_of_length_le (show R.length ≤ 64 by omega)]
   repeat (refine nst ?_)
   refine s_appI rfl rfl rfl rfl rfl rfl (by rw [hn]; rfl) (elt_mk Tryz.underlying23 rfl rfl) rfl rfl rfl rfl (by exact vcs) (by first | rfl | (simp; done) | (simp; omega)) ⟨by first | (simp; done) | (simp; omega) | (simp at *; omega), by decide⟩ ?_
   repeat (refine nst ?_)
   refine WL_freeze 300 [(41, B8 (P ++ b))] rfl hb ⟨⟨rfl, rfl, rfl, by omega, by rw [List.drop_zero, List.take_length]⟩, rfl⟩ ?_
   refine s_call0 (hr1) rfl rfl rfl (by rw [hn]; rfl) rfl rfl (by exact vcs) rfl rfl rfl ?_
   refine s_allocAN .u8 32 rfl rfl rfl (by rw [hn]; rfl) (by kernel_rfl) ?_
   repeat (refine nst ?_)
   refine s_storeA rfl rfl rfl rfl rfl (by exact vcs) rfl (by rw [cellsOf46]; first | rfl | assumption | omega | kernel_rfl | (simp; done) | (simp; omega) | (simp at *; omega)) (by first | rfl | assumption | omega | kernel_rfl | (simp; done) | (simp; omega) | (simp at *; omega)) (by first | assumption | (simp; done) | exact List.cons_ne_nil _ _) ?_
   repeat (refine nst ?_)
   refine sp true rfl rfl (by rw [hn]; rfl) ?_ ?_
   · exact ⟨rfl, by omega, hdn1, show 32 ≤ maxLen from by decide⟩
   refine s_appI rfl rfl rfl rfl rfl rfl (by rw [hn]; rfl) (elt_mk Tryz.underlying23 rfl rfl) rfl rfl rfl rfl (by exact vcs) (by first | rfl | (simp; done) | (simp; omega)) ⟨by first | (simp; done) | (simp; omega) | (simp at *; omega), by decide⟩ ?_
   rw [eDt]
   repeat (refine nst ?_)
   refine WL_freeze 301 [(45, B8 (R ++ D))] rfl hb ⟨⟨rfl, rfl, rfl, by omega, by rw [List.drop_zero, List.take_length]⟩, rfl⟩ ?_
   refine s_call0 (hr2) rfl rfl rfl (by rw [hn]; rfl) rfl rfl (by exact vcs) rfl rfl rfl ?_
   refine s_storeA rfl rfl rfl rfl rfl (by exact vcs) rfl (by rw [cellsOf46]; first | rfl | assumption | omega | kernel_rfl | (simp; done) | (simp; omega) | (simp at *; omega)) (by first | rfl | assumption | omega | kernel_rfl | (simp; done) | (simp; omega) | (simp at *; omega)) (by first | assumption | (simp; done) | exact List.cons_ne_nil _ _) ?_
   repeat (refine nst ?_)
   exact N_retN [] rfl (⟨rfl, by rw [cellsOf46]; omega, hdn2⟩) ⟨rfl, by first | trivial | exact ⟨rfl, rfl⟩, by first | trivial | exact rfl | exact ⟨rfl, rfl⟩, rfl⟩ hb rfl (by first | trivial | (simp; done) | (simp [ordL]; done))
end Go.Proofs.YthoaneleeabadaaGreat

/-
  Chapter 12: tags checked, the document's tags. The conditions: bytes that are bytes, at most half a million of them.
-/
import Derived.Test.YthoaneleeabadaaGreatA24
import Derived.Test.YthoaneleeabadaaGreatB9
import Derived.Test.YthoaneleeabadaaGreatB16
import Derived.Test.YthoaneleeabadaaGreatW16
import Derived.Test.YthoaneleeabadaaGreatSxR
import Derived.Test.YthoaneleeabadaaGreatM3
namespace Go.Proofs.YthoaneleeabadaaGreat
set_option linter.unusedSimpArgs false
set_option linter.unusedVariables false
open Go.Sx
set_option maxRecDepth 10000
abbrev shZ (b : Cell) : Blk := shC tag0 b bnilC 0
theorem zoff_ok (l : List Int) : Ct Tryz.prog 139 [.c (.ptr 0 0)] [shZ (.own 1 1 0 l.length), r8 l] (lv (.bool false)) [shZ (.own 1 1 0 l.length), r8 l] [] := by
 refine Ct_intro Tryz.func139 rfl rfl rfl rfl rfl (fun E hn hb => ?_)
 repeat refine nx ?_
 exact rt1 []
theorem zadd_ok (l x : List Int) (hl : l.length + x.length ≤ 1000000) :
   CtM Tryz.prog 140 [.c (.ptr 0 0), B8 x] [shZ (.own 1 1 0 l.length), r8 l] (.tup []) [shZ (.own 2 1 0 (l ++ x).length), .gone] [r8 (l ++ x)] := by
 have e0 : l.take (0 + l.length) = l := by simp
 refine CtM_intro Tryz.func140 rfl rfl rfl rfl rfl (fun E hn hb => ?_)
 repeat refine nx ?_
 refine s_appendK 900 rfl rfl rfl rfl rfl (by rw [hn]; rfl) (elt_mk Tryz.underlying23 rfl rfl) rfl rfl rfl rfl ?_ (by simp) ⟨by omega, by decide⟩ ?_ ?_
 · trivial
 · rw [e0]
   repeat refine nx ?_
   rw [← List.length_append]
   exact N_endM [1] rfl (by trivial) ⟨rfl, ⟨.inr rfl, .inl rfl⟩, rfl, rfl⟩ hb rfl
 · rw [e0, List.drop_zero]
   repeat refine nx ?_
   rw [← List.length_append]
   exact N_endM [900] rfl (by trivial) ⟨rfl, ⟨.inr rfl, .inl rfl⟩, rfl, rfl⟩ hb rfl
theorem zput_ok (l x : List Int) (hl : l.length + x.length ≤ 1000000) :
   CtM Tryz.prog 105 [.c (.ptr 0 0), rowsA [x]] [shZ (.own 1 1 0 l.length), r8 l] (.tup []) [shZ (.own 2 1 0 (l ++ x).length), .gone] [r8 (l ++ x)] := by
 have h := zoff_ok l
 have ha := zadd_ok l x hl
 refine CtM_intro Tryz.func105 rfl rfl rfl rfl rfl (fun E hn hb => ?_)
 repeat refine nx ?_
 refine W_weaken (St.le_of (l := [(0, .c (.ptr 0 0)), (8, rowsA [x]), (9, lv (.int .i64 1)), (10, lv (.int .i64 0))]) (h := [(0, shZ (.own 1 1 0 l.length)), (1, r8 l)]) (by refine ⟨?_, ?_⟩ <;> (repeat' (first | exact trivial | exact rfl | refine ⟨?_, ?_⟩)) <;> first | exact rfl | (simp; done) | skip)) ?_
 refine W_loop (ι := Bool) (fun i => match i with
   | false => St.of [(0, .c (.ptr 0 0)), (8, rowsA [x]), (9, lv (.int .i64 1)), (10, lv (.int .i64 0))] [(0, shZ (.own 1 1 0 l.length)), (1, r8 l)]
   | true => St.of [(8, rowsA [x]), (9, lv (.int .i64 1)), (10, lv (.int .i64 1))] [(0, shZ (.own 82 1 0 (l ++ x).length)), (82, r8 (l ++ x))]) (fun i => match i with | false => 1 | true => 0) (fun i => ?_) false
 cases i with
 | false =>
   dsimp only
   repeat refine nx ?_
   refine s_callM [0, 1] ha rfl rfl (by rw [hn]; rfl) rfl rfl (by trivial) ⟨rfl, ⟨rfl, rfl⟩, (by simp [ordL]), rfl⟩ ?_
   repeat refine nx ?_
   refine N_round true (by decide) (St.le_of ⟨⟨rfl, rfl, rfl⟩, ⟨rfl, rfl⟩⟩)
 | true =>
   dsimp only
   repeat refine nx ?_
   exact N_retM [82] rfl (by trivial) ⟨rfl, ⟨.inr rfl, .inl rfl⟩, rfl, rfl⟩ hb rfl
theorem zfail_ok (l : List Int) : Ct Tryz.prog 106 [.c (.ptr 0 0), lv (.int .i64 0)] [shZ (.own 1 1 0 l.length), r8 l] (.tup []) [shZ (.own 1 1 0 l.length), r8 l] [] := by
 have h := zoff_ok l
 refine Ct_intro Tryz.func106 rfl rfl rfl rfl rfl (fun E hn hb => ?_)
 repeat refine nx ?_
 exact rt1 []
theorem zbytes_ok (l : List Int) (hl : l.length ≤ 1000000) : Ct Tryz.prog 107 [.c (.ptr 0 0)] [shZ (.lf (.ints .u8 l))] (.tup [B8 l, lv (.int .i64 0)]) [shZ (.lf (.ints .u8 l))] [] := by
 have h := clone_ok l hl
 refine Ct_intro Tryz.func107 rfl rfl rfl rfl rfl (fun E hn hb => ?_)
 repeat refine nx ?_
 exact rt1 []
def sglB (x : List Int) : Bool := decide ((wholesP x 0).2 = 0) && decide ((wholesP x 0).1.length = 1)
def rightZ (t o m : List Int) : Bool := sglB t && rightG o m
theorem single_ok (x : List Int) (hl : x.length ≤ 100000) (hw : WfB x) : Ct Tryz.prog 87 [B8 x] [] (lv (.bool (sglB x))) [] [] := by
 have hcn := curnew_ok x (by omega)
 have hwh := wholes_ok x 0 (Nat.zero_le _) hl hw
 unfold sglB
 generalize wholesP x 0 = W at *
 obtain ⟨rs, e⟩ := W
 dsimp only at *
 by_cases he : e = 0
 · subst he
   rw [if_pos rfl] at hwh
   refine Ct_intro Tryz.func87 rfl rfl rfl rfl rfl (fun E hn hb => ?_)
   repeat refine nx ?_
   refine rt2 [] (congrArg (fun x => lv (.bool x)) ?_) trivial
   have h1 : ((rs.length : Int) == 1) = decide (rs.length = 1) := by rw [Bool.eq_iff_iff]; simp; omega
   simp [h1]
 · rw [if_neg he] at hwh
   rw [decide_eq_false he]
   refine Ct_intro Tryz.func87 rfl rfl rfl rfl rfl (fun E hn hb => ?_)
   repeat refine nx ?_
   refine rt2 [] (congrArg (fun x => lv (.bool x)) ?_) trivial
   simp [he]
theorem rsingle_ok (x : List Int) (hl : x.length ≤ 100000) (hw : WfB x) : Ct Tryz.prog 90 [B8 x] [] (lv (.bool (sglB x))) [] [] := by
 have hwh := refwholes_ok x 0 (Nat.zero_le _) hl hw
 unfold sglB
 generalize wholesP x 0 = W at *
 obtain ⟨rs, e⟩ := W
 dsimp only at *
 refine Ct_intro Tryz.func90 rfl rfl rfl rfl rfl (fun E hn hb => ?_)
 repeat refine nx ?_
 refine rt2 [] (congrArg (fun x => lv (.bool x)) ?_) trivial
 have h1 : ((rs.length : Int) == 1) = decide (rs.length = 1) := by rw [Bool.eq_iff_iff]; simp; omega
 by_cases he : e = 0
 · simp [he, h1]
 · simp [he]
theorem sright_ok (t o m s : List Int) (ht : t.length ≤ 100000) (hwt : WfB t) (ho : o.length ≤ 1000000) (hm : m.length ≤ 100000) (hw : WfB m) : Ct Tryz.prog 54 [sealA t o m s] [] (lv (.bool (rightZ t o m))) [] [] := by
 have h1 := single_ok t ht hwt
 have h2 := rightalg_ok o m ho hm hw
 unfold rightZ
 generalize sglB t = S at *
 generalize rightG o m = G at *
 refine Ct_intro Tryz.func54 rfl rfl rfl rfl rfl (fun E hn hb => ?_)
 repeat refine nx ?_
 refine rt2 [] (congrArg (fun x => lv (.bool x)) ?_) trivial
 cases S <;> rfl
theorem rsright_ok (t o m s : List Int) (ht : t.length ≤ 100000) (hwt : WfB t) (ho : o.length ≤ 1000000) (hm : m.length ≤ 100000) (hw : WfB m) : Ct Tryz.prog 55 [sealA t o m s] [] (lv (.bool (rightZ t o m))) [] [] := by
 have h1 := rsingle_ok t ht hwt
 have h2 := rrightalg_ok o m ho hm hw
 unfold rightZ
 generalize sglB t = S at *
 generalize rightG o m = G at *
 refine Ct_intro Tryz.func55 rfl rfl rfl rfl rfl (fun E hn hb => ?_)
 repeat refine nx ?_
 refine rt2 [] (congrArg (fun x => lv (.bool x)) ?_) trivial
 cases S <;> rfl
def wrPZ (t o m s : List Int) : List Int := t ++ wrapL (ofT 16) (wrapL (ofT 6) (arcsL (numsL o)) ++ m) ++ wrapL (ofT 3) (0 :: s)
theorem wrPZ_len {t o m s : List Int} (h : rightG o m = true) : (wrPZ t o m s).length ≤ t.length + m.length + s.length + 300 := by
 have hl := whole_len (rightG_o h)
 have l2 := wrap_len (ofT 16) (wrapL (ofT 6) (arcsL (numsL o)) ++ m)
 have l3 := wrap_len (ofT 3) (0 :: s)
 unfold wrPZ
 simp only [List.length_append, List.length_cons] at *
 omega
set_option maxHeartbeats 16000000 in
theorem swparts_ok (t o m s : List Int) (ht : t.length ≤ 100000) (hwt : WfB t) (ho : o.length ≤ 1000000) (hm : m.length ≤ 100000) (hw : WfB m) (hs : s.length ≤ 100000) (hws : WfB s) :
   Ct Tryz.prog 53 [sealA t o m s] [] (.tup [B8 (if rightZ t o m = true then wrPZ t o m s else []), lv (.int .i64 (if rightZ t o m = true then 0 else 1))]) [] [] := by
 have h1 := sright_ok t o m s ht hwt ho hm hw
 cases hr : rightZ t o m with
 | false =>
   rw [hr] at h1
   rw [if_neg (by simp), if_neg (by simp)]
   refine Ct_intro Tryz.func53 rfl rfl rfl rfl rfl (fun E hn hb => ?_)
   repeat refine nx ?_
   exact rtU []
 | true =>
   rw [hr] at h1
   rw [if_pos rfl, if_pos rfl]
   have hg : rightG o m = true := by unfold rightZ at hr; simp at hr; exact hr.2
   have hlen := wrPZ_len (t := t) (s := s) hg
   have h2 := wralg_ok o m ho hm hw
   have h3 := bwrite_ok 0 s hs hws
   unfold wrG at h2
   rw [if_pos hg] at h2
   unfold wrS at h3
   rw [if_pos (rightS_zero s)] at h3
   have hl := whole_len (rightG_o hg)
   have l2 := wrap_len (ofT 16) (wrapL (ofT 6) (arcsL (numsL o)) ++ m)
   have l3 := wrap_len (ofT 3) (0 :: s)
   simp only [List.length_append, List.length_cons] at l2 l3
   unfold wrPZ at hlen ⊢
   generalize wrapL (ofT 16) (wrapL (ofT 6) (arcsL (numsL o)) ++ m) = A at *
   generalize wrapL (ofT 3) (0 :: s) = B at *
   dsimp only at h2 h3
   have p0 := bnew_ok
   have p1 := zput_ok [] t (by simp; omega)
   have p2 := zput_ok t A (by omega)
   have p3 := zput_ok (t ++ A) B (by rw [List.length_append]; omega)
   rw [List.nil_append] at p1
   have pb := zbytes_ok (t ++ A ++ B) (by simp only [List.length_append]; omega)
   refine Ct_intro Tryz.func53 rfl rfl rfl rfl rfl (fun E hn hb => ?_)
   repeat refine nx ?_
   refine WL_sr (fun a w h => SR.cell_nil 76 4 900 rfl rfl rfl rfl rfl h) ?_
   refine s_callM [76, 900] p1 rfl rfl (by rw [hn]; rfl) rfl rfl (by trivial) ⟨rfl, ⟨rfl, rfl⟩, (by simp [ordL]), rfl⟩ ?_
   have f1 := zfail_ok t
   repeat refine nx ?_
   refine s_callM [76, 81] p2 rfl rfl (by rw [hn]; rfl) rfl rfl (by trivial) ⟨rfl, ⟨rfl, rfl⟩, (by simp [ordL]), rfl⟩ ?_
   clear f1
   have f2 := zfail_ok (t ++ A)
   repeat refine nx ?_
   refine s_callM [76, 94] p3 rfl rfl (by rw [hn]; rfl) rfl rfl (by trivial) ⟨rfl, ⟨rfl, rfl⟩, (by simp [ordL]), rfl⟩ ?_
   repeat refine nx ?_
   refine frcL 108 76 ?_
   repeat refine nx ?_
   exact rt1 []
theorem swrite_ok (t o m s : List Int) (ht : t.length ≤ 100000) (hwt : WfB t) (ho : o.length ≤ 1000000) (hm : m.length ≤ 100000) (hw : WfB m) (hs : s.length ≤ 100000) (hws : WfB s) :
   Ct Tryz.prog 52 [sealA t o m s] [] (.tup [B8 (if rightZ t o m = true then wrapL (ofT 16) (wrPZ t o m s) else []), lv (.int .i64 (if rightZ t o m = true then 0 else 1))]) [] [] := by
 have h1 := swparts_ok t o m s ht hwt ho hm hw hs hws
 cases hr : rightZ t o m with
 | false =>
   rw [hr, if_neg (by simp), if_neg (by simp)] at h1
   rw [if_neg (by simp), if_neg (by simp)]
   refine Ct_intro Tryz.func52 rfl rfl rfl rfl rfl (fun E hn hb => ?_)
   repeat refine nx ?_
   exact rtU []
 | true =>
   rw [hr, if_pos rfl, if_pos rfl] at h1
   rw [if_pos rfl, if_pos rfl]
   have hg : rightG o m = true := by unfold rightZ at hr; simp at hr; exact hr.2
   have hlen := wrPZ_len (t := t) (s := s) hg
   have h2 := sequence_ok [wrPZ t o m s] (by simp) (by simp; omega)
   rw [show [wrPZ t o m s].flatten = wrPZ t o m s by simp] at h2
   generalize wrPZ t o m s = X at *
   refine Ct_intro Tryz.func52 rfl rfl rfl rfl rfl (fun E hn hb => ?_)
   repeat refine nx ?_
   exact rt1 []
theorem refcopyO_ok (l : List Int) (hl : l.length ≤ 1000000) : Ct Tryz.prog 103 [B8 l] [] (.c (.own 0 1 0 l.length)) [] [.row (.ints .u8 l)] := by
 refine Ct_intro Tryz.func103 rfl rfl rfl rfl rfl (fun E hn hb => ?_)
 repeat (first | refine lo1 ?_ | refine nx ?_)
 simp only [List.nil_append]
 exact rt1 [67]
set_option maxHeartbeats 8000000 in
theorem rswparts_ok (t o m s : List Int) (ht : t.length ≤ 100000) (hg : rightG o m = true) (hm : m.length ≤ 100000) (hs : s.length ≤ 100000) : Ct Tryz.prog 50 [sealA t o m s] [] (.c (.own 0 1 0 (wrPZ t o m s).length)) [] [.row (.ints .u8 (wrPZ t o m s))] := by
 have h1 := refcopyO_ok t (by omega)
 have h2 := rwralgD_ok o m hg hm
 have hl := whole_len (rightG_o hg)
 have l2 := wrap_len (ofT 16) (wrapL (ofT 6) (arcsL (numsL o)) ++ m)
 have l3 := wrap_len (ofT 3) (0 :: s)
 simp only [List.length_append, List.length_cons] at l2 l3
 have h3 := refoft_ok 3
 have h4 := refwrap_ok (ofT 3) (0 :: s) (by decide) (by simp; omega)
 unfold wrG at h2
 rw [if_pos hg] at h2
 unfold wrPZ
 rw [show (0 : Int) :: s = [0] ++ s by rfl] at *
 generalize wrapL (ofT 16) (wrapL (ofT 6) (arcsL (numsL o)) ++ m) = A at *
 generalize wrapL (ofT 3) ([0] ++ s) = B at *
 dsimp only at h2
 refine Ct_intro Tryz.func50 rfl rfl rfl rfl rfl (fun E hn hb => ?_)
 repeat (first | refine du2 (id := 1) ?_ | refine nx ?_)
 exact rt1 [82]
theorem rswpartsD_ok (t o m s : List Int) (ht : t.length ≤ 100000) (hg : rightG o m = true) (hm : m.length ≤ 100000) (hs : s.length ≤ 100000) : Ct Tryz.prog 50 [sealA t o m s] [] (B8 (wrPZ t o m s)) [] [] :=
 Ct.freeze (rswparts_ok t o m s ht hg hm hs) ⟨rfl, rfl, rfl, Nat.le_of_eq (Nat.zero_add _), by rw [List.drop_zero, List.take_length]⟩ rfl
end Go.Proofs.YthoaneleeabadaaGreat

namespace Go.Proofs.YthoaneleeabadaaGreat
set_option linter.unusedSimpArgs false
set_option linter.unusedVariables false
open Go.Sx
set_option maxRecDepth 10000
theorem sgl_wrap {t : List Int} (hw : WfB t) (h : sglB t = true) : ∃ (g : TagP) (x : List Int), rightT g = true ∧ x.length ≤ 16777216 ∧ t = wrapL g x := by
 unfold sglB at h
 simp at h
 have hne : t ≠ [] := by
   rintro rfl
   have := h.2
   simp [wholesP, wholesA] at this
 obtain ⟨h1, h2⟩ := wholes_read hw h.1 (by rw [h.2]; omega) hne
 have hle := readP_le t 0 (Nat.zero_le _)
 have hb := read_back (l := t) (p := 0) (q := (readP t 0).2.1) (t := (readP t 0).1.1) (n := (readP t 0).1.2) hw (by rw [← h1])
 refine ⟨(readP t 0).1.1, t.drop (readP t 0).2.1, hb.1, by simp; omega, ?_⟩
 have e := hb.2.2.2
 rw [List.drop_zero] at e
 have e2 : (readP t 0).1.2.toNat = (t.drop (readP t 0).2.1).length := by simp; omega
 rw [e2] at e
 rw [wrapL, List.append_assoc]
 exact e
theorem readP_sgl (A C : List Int) {t : List Int} (hw : WfB t) (h : sglB t = true) : (readP (A ++ (t ++ C)) A.length).2.2 = 0 ∧ A.length ≤ (readP (A ++ (t ++ C)) A.length).2.1 ∧ 0 ≤ (readP (A ++ (t ++ C)) A.length).1.2 ∧ ((readP (A ++ (t ++ C)) A.length).2.1 : Int) + (readP (A ++ (t ++ C)) A.length).1.2 = ((A.length + t.length : Nat) : Int) := by
 obtain ⟨g, x, h1, h2, rfl⟩ := sgl_wrap hw h
 rw [readP_at A x C g h1 h2]
 refine ⟨rfl, by dsimp only; omega, by dsimp only; omega, ?_⟩
 dsimp only
 simp only [wrapL, List.length_append]
 omega
theorem texP_fwd (A C : List Int) {t : List Int} (hw : WfB t) (h : sglB t = true) : texP (A ++ (t ++ C)) A.length = (t, 0, A.length + t.length) := by
 have hr := readP_sgl A C hw h
 unfold texP
 generalize readP (A ++ (t ++ C)) A.length = R at *
 obtain ⟨⟨g, n⟩, q, e⟩ := R
 dsimp only at *
 obtain ⟨rfl, h1, h2, h3⟩ := hr
 rw [if_pos rfl, if_neg (by simp only [List.length_append]; omega), List.drop_left, show q - A.length + n.toNat = t.length by omega, List.take_left, show q + n.toNat = A.length + t.length by omega]
theorem selP_fwd (A C : List Int) {s : List Int} (hs : s.length ≤ 100000) : selP (A ++ (wrapL (ofT 3) (0 :: s) ++ C)) A.length = (s, 0, A.length + (wrapL (ofT 3) (0 :: s)).length) := by
 unfold selP
 rw [bitR_fwd A C (rightS_zero s) hs]
 dsimp only
 rw [if_pos rfl, if_pos rfl]
theorem rightZ_m {t o m : List Int} (h : rightZ t o m = true) : sglB t = true ∧ rightG o m = true := by
 unfold rightZ at h
 simpa using h
theorem parZ_fwd (C : List Int) {t o m s : List Int} (hwt : WfB t) (hw : WfB m) (h : rightZ t o m = true) (hm : m.length ≤ 100000) (hs : s.length ≤ 100000) : parZ (wrPZ t o m s ++ C) 0 = ((t, o, m, s), 0, (wrPZ t o m s).length) := by
 obtain ⟨h1, h2⟩ := rightZ_m h
 have e1 := texP_fwd [] (wrapL (ofT 16) (wrapL (ofT 6) (arcsL (numsL o)) ++ m) ++ (wrapL (ofT 3) (0 :: s) ++ C)) hwt h1
 have e2 := algR_fwd t (wrapL (ofT 3) (0 :: s) ++ C) hw h2 hm
 have e3 := selP_fwd (t ++ wrapL (ofT 16) (wrapL (ofT 6) (arcsL (numsL o)) ++ m)) C hs
 rw [List.nil_append, List.length_nil, Nat.zero_add] at e1
 rw [List.length_append] at e3
 have hx : wrPZ t o m s ++ C = t ++ (wrapL (ofT 16) (wrapL (ofT 6) (arcsL (numsL o)) ++ m) ++ (wrapL (ofT 3) (0 :: s) ++ C)) := by unfold wrPZ; simp
 rw [← hx] at e1 e2
 rw [List.append_assoc, ← hx] at e3
 unfold parZ
 rw [e1]
 dsimp only
 rw [if_pos rfl, e2]
 dsimp only
 rw [if_pos rfl, e3]
 dsimp only
 rw [if_pos rfl]
 unfold wrPZ
 simp only [List.length_append]
theorem partsZ_fwd (C : List Int) {t o m s : List Int} (hwt : WfB t) (hw : WfB m) (h : rightZ t o m = true) (hm : m.length ≤ 100000) (hs : s.length ≤ 100000) : partsZ (wrPZ t o m s ++ C) 0 = ((t, o, m, s), 0, (wrPZ t o m s).length) := by
 unfold partsZ
 rw [parZ_fwd C hwt hw h hm hs]
 dsimp only
 rw [if_pos rfl]
theorem readZ_fwd {t o m s : List Int} (hwt : WfB t) (hw : WfB m) (h : rightZ t o m = true) (ht : t.length ≤ 100000) (hm : m.length ≤ 100000) (hs : s.length ≤ 100000) : readZ (wrapL (ofT 16) (wrPZ t o m s)) 0 = ((t, o, m, s), 0, (wrapL (ofT 16) (wrPZ t o m s)).length) := by
 have hl := wrPZ_len (t := t) (s := s) (rightZ_m h).2
 have e0 := openP_at [] (wrPZ t o m s) [] (ofT 16) (by decide) (by omega)
 rw [List.append_nil, List.nil_append, List.length_nil, Nat.zero_add] at e0
 have e1 := parZ_fwd [] hwt hw h hm hs
 rw [List.append_nil] at e1
 unfold readZ
 rw [e0]
 dsimp only
 rw [if_pos rfl, e1]
 dsimp only
 rw [if_pos rfl, if_neg (by omega)]
theorem parseZ_fwd {t o m s : List Int} (hwt : WfB t) (hw : WfB m) (h : rightZ t o m = true) (ht : t.length ≤ 100000) (hm : m.length ≤ 100000) (hs : s.length ≤ 100000) : parseZ (wrapL (ofT 16) (wrPZ t o m s)) = ((t, o, m, s), 0) := by
 unfold parseZ
 rw [readZ_fwd hwt hw h ht hm hs]
 dsimp only
 rw [if_pos rfl, if_neg (by omega)]
theorem place_at {t o m s : List Int} (ht : t.length ≤ 100000) (hm : m.length ≤ 100000) (hs : s.length ≤ 100000) (hg : rightG o m = true) : (readP (wrapL (ofT 16) (wrPZ t o m s)) 0).2.1 + (wrPZ t o m s).length = (wrapL (ofT 16) (wrPZ t o m s)).length ∧
   ((wrapL (ofT 16) (wrPZ t o m s)).drop (readP (wrapL (ofT 16) (wrPZ t o m s)) 0).2.1).take t.length = t := by
 have hl := wrPZ_len (t := t) (s := s) hg
 have hr := readP_at [] (wrPZ t o m s) [] (ofT 16) (by decide) (by omega)
 rw [List.append_nil, List.nil_append, List.length_nil, Nat.zero_add] at hr
 rw [hr]
 dsimp only
 refine ⟨by simp only [wrapL, List.length_append], ?_⟩
 rw [show wrapL (ofT 16) (wrPZ t o m s) = (tgL (ofT 16) ++ lenL (wrPZ t o m s).length) ++ wrPZ t o m s by rfl, show (tgL (ofT 16)).length + (lenL (wrPZ t o m s).length).length = (tgL (ofT 16) ++ lenL (wrPZ t o m s).length).length by rw [List.length_append], List.drop_left]
 unfold wrPZ
 rw [List.append_assoc, List.take_left]
end Go.Proofs.YthoaneleeabadaaGreat

namespace Go.Proofs.YthoaneleeabadaaGreat
set_option linter.unusedSimpArgs false
set_option linter.unusedVariables false
open Go.Sx
set_option maxRecDepth 10000
def hx1 : List Int := [101, 51, 98, 48, 99, 52, 52, 50, 57, 56, 102, 99, 49, 99, 49, 52, 57, 97, 102, 98, 102, 52, 99, 56, 57, 57, 54, 102, 98, 57, 50, 52, 50, 55, 97, 101, 52, 49, 101, 52, 54, 52, 57, 98, 57, 51, 52, 99, 97, 52, 57, 53, 57, 57, 49, 98, 55, 56, 53, 50, 98, 56, 53, 53]
def hx2 : List Int := [98, 48, 51, 52, 52, 99, 54, 49, 100, 56, 100, 98, 51, 56, 53, 51, 53, 99, 97, 56, 97, 102, 99, 101, 97, 102, 48, 98, 102, 49, 50, 98, 56, 56, 49, 100, 99, 50, 48, 48, 99, 57, 56, 51, 51, 100, 97, 55, 50, 54, 101, 57, 51, 55, 54, 99, 50, 101, 51, 50, 99, 102, 102, 55]
end Go.Proofs.YthoaneleeabadaaGreat

namespace Go.Proofs.YthoaneleeabadaaGreat
set_option linter.unusedSimpArgs false
set_option linter.unusedVariables false
open Go.Sx
set_option maxRecDepth 10000
theorem or8 {a b : Int} (ha : 0 ≤ a ∧ a < 256) (hb : 0 ≤ b ∧ b < 256) : IntKind.u8.wrap (BitVec.ofInt IntKind.u8.bits a ||| BitVec.ofInt IntKind.u8.bits b).toNat = ((a.toNat ||| b.toNat : Nat) : Int) ∧ a.toNat ||| b.toNat < 256 := by
 obtain ⟨m, rfl⟩ : ∃ n : Nat, a = n := ⟨a.toNat, by omega⟩
 obtain ⟨n, rfl⟩ : ∃ n : Nat, b = n := ⟨b.toNat, by omega⟩
 have bv8 : ∀ n : Nat, n < 256 → (BitVec.ofInt IntKind.u8.bits (n : Int)).toNat = n := by
   intro n h
   have : (BitVec.ofInt 8 (n : Int)).toNat = n := by
     rw [BitVec.ofInt_natCast, BitVec.toNat_ofNat]
     exact Nat.mod_eq_of_lt h
   exact this
 have h2 : m ||| n < 2 ^ 8 := Nat.or_lt_two_pow (by omega) (by omega)
 rw [BitVec.toNat_or, bv8 m (by omega), bv8 n (by omega), Int.toNat_natCast, Int.toNat_natCast]
 refine ⟨?_, by omega⟩
 rw [wrap_u8]
 omega
theorem or_zero {a b : Nat} : a ||| b = 0 ↔ a = 0 ∧ b = 0 := by
 constructor
 · intro h
   have h1 : a ≤ a ||| b := Nat.left_le_or
   have h2 : b ≤ a ||| b := Nat.right_le_or
   omega
 · rintro ⟨rfl, rfl⟩; rfl
theorem xI_zero {a b : Int} (ha : 0 ≤ a) (hb : 0 ≤ b) : xI a b = 0 ↔ a = b := by
 obtain ⟨m, rfl⟩ : ∃ n : Nat, a = n := ⟨a.toNat, by omega⟩
 obtain ⟨n, rfl⟩ : ∃ n : Nat, b = n := ⟨b.toNat, by omega⟩
 have e : xI (m : Int) (n : Int) = ((m ^^^ n : Nat) : Int) := rfl
 rw [e]
 constructor
 · intro h
   have h1 : m ^^^ n = 0 := by omega
   have : m = n := Nat.eq_of_testBit_eq fun i => by
     have h2 := congrArg (fun z => Nat.testBit z i) h1
     simpa using h2
   omega
 · intro h
   have : m = n := by omega
   subst this
   simp
structure SQ where
 i : Nat
 x : Int
theorem msame_ok (a b : List Int) (ha : a.length ≤ 1000000) (hb' : b.length ≤ 1000000) (hwa : WfB a) (hwb : WfB b) : Ct Tryz.prog 127 [B8 a, B8 b] [] (lv (.bool (decide (a = b)))) [] [] := by
 refine Ct_intro Tryz.func127 rfl rfl rfl rfl rfl (fun E hn hb => ?_)
 repeat (refine nst ?_)
 refine W_cond rfl (by simp) (fun hq => ?_) (fun hq => ?_)
 · have hne : a ≠ b := by intro h; subst h; simp at hq
   have e : decide (a = b) = false := by simp [hne]
   rw [e]
   repeat (refine nst ?_)
   exact rt1 []
 · have hle : a.length = b.length := by simp at hq; omega
   repeat (refine nst ?_)
   refine W_weaken (St.le_of (l := [(0, B8 a), (1, B8 b), (5, lv (.int .u8 0)), (13, lv (.int .i64 (a.length : Int))), (14, lv (.int .i64 0))]) (h := []) (by refine ⟨?_, ?_⟩ <;> (repeat' (first | exact trivial | exact rfl | refine ⟨?_, ?_⟩)) <;> first | exact rfl | (simp; done) | skip)) ?_
   refine W_loop (ι := {p : SQ // p.i ≤ a.length ∧ 0 ≤ p.x ∧ p.x < 256 ∧ (p.x = 0 ↔ a.take p.i = b.take p.i)}) (fun p => St.of [(0, B8 a), (1, B8 b), (5, lv (.int .u8 p.1.x)), (13, lv (.int .i64 (a.length : Int))), (14, lv (.int .i64 (p.1.i : Int)))] []) (fun p => a.length - p.1.i) (fun p => ?_) ⟨⟨0, 0⟩, by simp, by simp, by simp, by simp⟩
   obtain ⟨⟨i, x⟩, q1, q2, q3, q4⟩ := p
   have hi : i ≤ a.length := q1
   have hx : 0 ≤ x ∧ x < 256 := ⟨q2, q3⟩
   have hxe : x = 0 ↔ a.take i = b.take i := q4
   dsimp only
   clear q1 q2 q3 q4
   repeat (refine nst ?_)
   refine W_cond rfl (by simp) (fun hc => ?_) (fun hc => ?_)
   · have hia : i < a.length := by simpa using hc
     have hga := wf_get hwa (i : Int).toNat
     have hgb := wf_get hwb (i : Int).toNat
     obtain ⟨x1, x2⟩ := xor8 hga hgb
     obtain ⟨o1, o2⟩ := or8 hx x2
     have hxz := xI_zero hga.1 hgb.1
     have ht : a.take (i + 1) = b.take (i + 1) ↔ a.take i = b.take i ∧ a.getD (i : Int).toNat 0 = b.getD (i : Int).toNat 0 := by
       have hib : i < b.length := by omega
       have ga : a.getD i 0 = a[i] := by simp [hia]
       have gb : b.getD i 0 = b[i] := by simp [hib]
       rw [List.take_succ_eq_append_getElem hia, List.take_succ_eq_append_getElem hib, Int.toNat_natCast, ga, gb]
       constructor
       · intro h
         obtain ⟨k1, k2⟩ := List.append_inj' h rfl
         exact ⟨k1, by simpa using k2⟩
       · rintro ⟨k1, k2⟩
         rw [k1, k2]
     repeat (refine nst ?_)
     refine W_drawW 11 (by kernel_rfl) (by kernel_rfl) (by kernel_rfl) (by rw [hn]; rfl) rfl rfl ?_
     repeat (first | refine dp1 ?_ | refine dg1 ?_ | refine DrawW_nil ?_)
     repeat (refine nst ?_)
     refine N_round ⟨⟨i + 1, ((x.toNat ||| (xI (a.getD (i : Int).toNat 0) (b.getD (i : Int).toNat 0)).toNat : Nat) : Int)⟩, by dsimp only; omega, by dsimp only; omega, by dsimp only; omega, ?_⟩ (by dsimp only; omega) (St.le_of ⟨⟨rfl, rfl, ?_, rfl, rfl⟩, trivial⟩)
     · dsimp only
       rw [ht, ← hxe, ← hxz]
       have h0 : ∀ z : Nat, ((z : Nat) : Int) = 0 ↔ z = 0 := fun z => by omega
       rw [h0, or_zero]
       omega
     · dsimp only
       refine congrArg (fun y => lv (.int .u8 y)) ?_
       rw [x1]
       exact o1
   · have : i = a.length := by simp at hc; omega
     subst this
     rw [List.take_length, hle, List.take_length] at hxe
     repeat (refine nst ?_)
     refine rt2 [] ?_ ?_
     · refine congrArg (fun y => lv (.bool y)) ?_
       rw [← decide_eq_decide.2 hxe]
       exact (Bool.beq_eq_decide_eq _ _)
     · trivial

set_option maxRecDepth 10000
theorem ne32 {l : List Int} (h : l.length = 32) : l ≠ [] := fun h2 => by rw [h2] at h; simp at h
theorem mcheck_ok (k t : List Int) (bs : List (List Int)) (hk : WfB k) (hkl : k.length ≤ 1000000) (ht : WfB t) (htl : t.length ≤ 1000000) (hbs : ∀ b ∈ bs, WfB b) (hbl : bs.length ≤ 1000) (hn1 : bs.flatten.length ≤ 900000) :
   Ct Tryz.prog 93 [B8 k, B8 t, partsA bs] [] (lv (.bool (decide (tagS k bs.flatten = t)))) [] [] := by
 have htag := tag_ok k bs hk hkl hbs hbl hn1
 have hdl : (tagS k bs.flatten).length = 32 := digS_len _
 have hdw : WfB (tagS k bs.flatten) := digS_wf _
 generalize tagS k bs.flatten = D at *
 have hdn := ne32 hdl
 have d1 : (D.drop 0).take 32 = D := by rw [List.drop_zero, List.take_of_length_le (by omega)]
 have hs := msame_ok D t (by omega) htl hdw ht
 have hs2 : Ct Tryz.prog 127 [B8 ((D.drop 0).take 32), B8 t] [] (lv (.bool (decide (D = t)))) [] [] := by rw [d1]; exact hs
 refine Ct_intro Tryz.func93 rfl rfl rfl rfl rfl (fun E hn hb => ?_)
 repeat (refine nst ?_)
 refine s_call0 (htag) rfl rfl rfl (by rw [hn]; rfl) rfl rfl (by exact vcs) rfl rfl rfl ?_
 refine s_allocAN .u8 32 rfl rfl rfl (by rw [hn]; rfl) (by kernel_rfl) ?_
 repeat (refine nst ?_)
 refine s_storeA rfl rfl rfl rfl rfl (by exact vcs) rfl (by rw [cellsOf46]; first | rfl | assumption | omega | kernel_rfl | (simp; done) | (simp; omega) | (simp at *; omega)) (by first | rfl | assumption | omega | kernel_rfl | (simp; done) | (simp; omega) | (simp at *; omega)) (by first | assumption | (simp; done) | exact List.cons_ne_nil _ _) ?_
 repeat (refine nst ?_)
 refine sp true rfl rfl (by rw [hn]; rfl) ?_ ?_
 · exact ⟨rfl, by omega, hdn, show 32 ≤ maxLen from by decide⟩
 repeat (refine nst ?_)
 refine WL_q (opq_of (opy_callL hs2 rfl rfl rfl (by trivial) ⟨.inr (.inl ⟨71, 0, 32, .u8, D, rfl, rfl, by omega, rfl⟩), .inl rfl, trivial⟩ rfl) rfl) (by rw [hn]; rfl) ?_
 repeat (refine nst ?_)
 exact rt1 []
end Go.Proofs.YthoaneleeabadaaGreat

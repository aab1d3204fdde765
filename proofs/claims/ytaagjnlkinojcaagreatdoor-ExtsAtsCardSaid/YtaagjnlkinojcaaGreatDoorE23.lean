/-
  Chapter 17: the document's list written; what is written is read as it was. The conditions: rows that a machine can hold.
-/
import Derived.Test.YtaagjnlkinojcaaGreatDoorE19
import Derived.Test.YtaagjnlkinojcaaGreatDoorB9
import Derived.Test.YtaagjnlkinojcaaGreatDoorO16
namespace Go.Proofs.YtaagjnlkinojcaaGreatDoor
set_option linter.unusedSimpArgs false
set_option linter.unusedVariables false
open Go.Sx
set_option maxRecDepth 10000
instance goodX_dec (l : List ExT) : Decidable (goodX l) := inferInstanceAs (Decidable ((∀ e ∈ l, rightO e.1 = true) ∧ (l.map (·.1)).Nodup))
def rgtX (l : List ExT) : Bool := decide (goodX l) && (decide (0 < l.length) && decide (l.length ≤ 64))
theorem take_snoc {α : Type} [Inhabited α] {l : List α} {i : Nat} (h : i < l.length) : l.take (i + 1) = l.take i ++ [l.getD i default] := by
 rw [List.take_add_one, List.getD_eq_getElem?_getD, List.getElem?_eq_getElem h]
 rfl
theorem goodX_next {l : List ExT} {i : Nat} (hi : i < l.length) (hg : goodX (l.take i)) (hr : rightO (l.getD i default).1 = true) (hn : ¬ hasO (l.take i) (l.getD i default).1 = true) : goodX (l.take (i + 1)) := by
 rw [take_snoc hi]
 exact goodX_snoc hg hr hn
theorem goodX_bad1 {l : List ExT} {i : Nat} (hi : i < l.length) (hr : rightO (l.getD i default).1 = false) : ¬ goodX l := fun h => by
 have := h.1 _ (get_mem hi)
 rw [hr] at this
 cases this
theorem goodX_bad2 {l : List ExT} {i : Nat} (hi : i < l.length) (hh : hasO (l.take i) (l.getD i default).1 = true) : ¬ goodX l := fun h => by
 have h2 := h.2
 rw [← List.take_append_drop (i + 1) l, List.map_append, List.nodup_append, take_snoc hi, List.map_append, List.nodup_append] at h2
 rw [hasO_iff] at hh
 exact h2.1.2.2 _ hh _ (by simp) rfl
set_option maxHeartbeats 16000000 in
theorem xright_ok (l : List ExT) (hl : l.length ≤ 1000) (h : ∀ e ∈ l, okE e) : Ct Tryz.prog 19 [exR l] [] (lv (.bool (rgtX l))) [] [] := by
 obtain ⟨B, hB⟩ : ∃ B, rgtX l = B := ⟨_, rfl⟩
 rw [hB]
 have hml : (l.map exL).length = l.length := List.length_map ..
 refine Ct_intro Tryz.func19 rfl rfl rfl rfl rfl (fun E hn hb => ?_)
 repeat refine nxm ?_
 rw [hml]
 refine W_weaken (St.le_of (l := [(0, exR l), (3, .c (.map 70)), (7, exR l), (8, lv (.int .i64 (l.length : Int))), (9, lv (.int .i64 ((0 : Nat) : Int)))]) (h := [(70, .map (metM (([] : List ExT).map (·.1))))]) (by refine ⟨?_, ?_⟩ <;> (repeat' (first | exact trivial | exact rfl | refine ⟨?_, ?_⟩)) <;> first | exact rfl | (simp; done) | skip)) ?_
 refine W_loop (ι := {i : Nat // i ≤ l.length ∧ goodX (l.take i)}) (fun i => St.of [(0, exR l), (3, .c (.map 70)), (7, exR l), (8, lv (.int .i64 (l.length : Int))), (9, lv (.int .i64 (i.1 : Int)))] [(70, .map (metM ((l.take i.1).map (·.1))))]) (fun i => l.length - i.1) (fun i => ?_) ⟨0, Nat.zero_le _, goodX_nil⟩
 obtain ⟨i, hi, hg⟩ := i
 dsimp only at hg ⊢
 by_cases hi2 : i < l.length
 · have hoe := okE_get h i hi2
   have hr := oright_ok (l.getD i default).1 hoe.1
   have hq : l.getD (i : Int).toNat default = l.getD i default := rfl
   have hnx := @goodX_next l i hi2 hg
   have hb1 := @goodX_bad1 l i hi2
   have hb2 := @goodX_bad2 l i hi2
   have hts := take_snoc hi2
   cases hro : rightO (l.getD i default).1 with
   | false =>
     rw [hro] at hr
     have hBf : B = false := by rw [← hB]; unfold rgtX; rw [decide_eq_false (hb1 hro)]; rfl
     subst hBf
     generalize l.getD i default = e at *
     obtain ⟨o, c, v⟩ := e
     repeat (first | refine nxm ?_ | rw [hq] | refine wgF (lv (.bool false)) hn ?_)
     exact rt1 []
   | true =>
     rw [hro] at hr
     by_cases hh : hasO (l.take i) (l.getD i default).1 = true
     · have hBf : B = false := by rw [← hB]; unfold rgtX; rw [decide_eq_false (hb2 hh)]; rfl
       subst hBf
       have ha := madd_old ((l.take i).map (·.1)) (l.getD i default).1 hro (goodX_right hg) (hasO_iff.1 hh)
       generalize l.getD i default = e at *
       obtain ⟨o, c, v⟩ := e
       repeat (first | refine nxm ?_ | rw [hq] | refine WL_gT rfl rfl ?_)
       exact rt1 []
     · have ha := madd_new ((l.take i).map (·.1)) (l.getD i default).1 hro (goodX_right hg) (fun h => hh (hasO_iff.2 h))
       have hnx2 := hnx hro hh
       clear hnx
       generalize l.getD i default = e at *
       obtain ⟨o, c, v⟩ := e
       repeat (first | refine nxm ?_ | rw [hq] | refine WL_gT rfl rfl ?_)
       refine N_round ⟨i + 1, by omega, hnx2⟩ (by dsimp only; omega) (St.le_of ⟨⟨rfl, rfl, rfl, rfl, rfl⟩, ?_⟩)
       dsimp only
       rw [hts, List.map_append]
       rfl
 · obtain rfl : i = l.length := by omega
   rw [List.take_length] at hg
   subst hB
   repeat refine nxm ?_
   refine rt2 [] (congrArg (fun x => lv (.bool x)) ?_) trivial
   unfold rgtX
   rw [decide_eq_true hg]
   have h64 : decide ((l.length : Int) ≤ 64) = decide (l.length ≤ 64) := by rw [Bool.eq_iff_iff]; simp; omega
   simp [h64]
set_option maxHeartbeats 16000000 in
theorem rright17_ok (l : List ExT) (hl : l.length ≤ 1000) (h : ∀ e ∈ l, okE e) : Ct Tryz.prog 18 [exR l] [] (lv (.bool (rgtX l))) [] [] := by
 obtain ⟨B, hB⟩ : ∃ B, rgtX l = B := ⟨_, rfl⟩
 rw [hB]
 have hml : (l.map exL).length = l.length := List.length_map ..
 refine Ct_intro Tryz.func18 rfl rfl rfl rfl rfl (fun E hn hb => ?_)
 repeat refine nx ?_
 refine W_weaken (St.le_of (l := [(0, exR l), (3, lv (.int .i64 ((0 : Nat) : Int)))]) (h := []) (by refine ⟨?_, ?_⟩ <;> (repeat' (first | exact trivial | exact rfl | refine ⟨?_, ?_⟩)) <;> first | exact rfl | (simp; done) | skip)) ?_
 refine W_loop (ι := {i : Nat // i ≤ l.length ∧ goodX (l.take i)}) (fun i => St.of [(0, exR l), (3, lv (.int .i64 (i.1 : Int)))] []) (fun i => l.length - i.1) (fun i => ?_) ⟨0, Nat.zero_le _, goodX_nil⟩
 obtain ⟨i, hi, hg⟩ := i
 dsimp only at hg ⊢
 by_cases hi2 : i < l.length
 · have hoe := okE_get h i hi2
   have hr := refRight_ok (l.getD i default).1 hoe.1
   have hq : l.getD (i : Int).toNat default = l.getD i default := rfl
   have hnx := @goodX_next l i hi2 hg
   have hb1 := @goodX_bad1 l i hi2
   have hb2 := @goodX_bad2 l i hi2
   have hlt : (l.take i).length = i := by simp; omega
   have hgt : ∀ j, j < i → (l.take i).getD j default = l.getD j default := fun j hj => by
     rw [List.getD_eq_getElem?_getD, List.getElem?_take_of_lt hj, ← List.getD_eq_getElem?_getD]
   cases hro : rightO (l.getD i default).1 with
   | false =>
     rw [hro] at hr
     have hBf : B = false := by rw [← hB]; unfold rgtX; rw [decide_eq_false (hb1 hro)]; rfl
     subst hBf
     generalize l.getD i default = e at *
     obtain ⟨o, c, v⟩ := e
     repeat (first | refine nx ?_ | rw [hq])
     exact rt1 []
   | true =>
     rw [hro] at hr
     repeat (first | refine nx ?_ | rw [hq])
     refine W_weaken (St.le_of (l := [(0, exR l), (3, lv (.int .i64 (i : Int))), (4, lv (.int .i64 ((0 : Nat) : Int)))]) (h := []) (by refine ⟨?_, ?_⟩ <;> (repeat' (first | exact trivial | exact rfl | refine ⟨?_, ?_⟩)) <;> first | exact rfl | (simp; done) | skip)) ?_
     refine W_loop (ι := {k : Nat // k ≤ i ∧ ∀ j, j < k → ¬ (l.getD j default).1 = (l.getD i default).1}) (fun k => St.of [(0, exR l), (3, lv (.int .i64 (i : Int))), (4, lv (.int .i64 (k.1 : Int)))] []) (fun k => i - k.1) (fun k => ?_) ⟨0, Nat.zero_le _, fun j h => by omega⟩
     obtain ⟨k, hk, hkj⟩ := k
     dsimp only
     by_cases hk2 : k < i
     · have hoek := okE_get h k (by omega)
       have hs := refSame_ok (l.getD k default).1 (l.getD i default).1 hoek.1 hoe.1
       have hqk : l.getD (k : Int).toNat default = l.getD k default := rfl
       by_cases heq : (l.getD k default).1 = (l.getD i default).1
       · have hBf : B = false := by
           rw [← hB]; unfold rgtX
           rw [decide_eq_false (hb2 (hasO_at (by rw [hlt]; exact hk2) (by rw [hgt k hk2]; exact heq)))]; rfl
         subst hBf
         rw [decide_eq_true heq] at hs
         repeat (first | refine nx ?_ | rw [hq] | rw [hqk])
         exact rt1 []
       · have hkj2 : ∀ j, j < k + 1 → ¬ (l.getD j default).1 = (l.getD i default).1 := fun j h => by
           by_cases h3 : j = k
           · subst h3; exact heq
           · exact hkj j (by omega)
         rw [decide_eq_false heq] at hs
         repeat (first | refine nx ?_ | rw [hq] | rw [hqk])
         refine N_round ⟨k + 1, by omega, hkj2⟩ (by dsimp only; omega) (St.le_of ⟨⟨rfl, rfl, rfl⟩, trivial⟩)
     · obtain rfl : k = i := by omega
       have hg2 := hnx hro (hasO_none fun j hj => by
         rw [hlt] at hj
         rw [hgt j hj]
         exact hkj j hj)
       repeat refine nx ?_
       refine N_round ⟨k + 1, by omega, hg2⟩ (by dsimp only; omega) (St.le_of ⟨⟨rfl, rfl⟩, trivial⟩)
 · obtain rfl : i = l.length := by omega
   rw [List.take_length] at hg
   subst hB
   repeat refine nx ?_
   refine rt2 [] (congrArg (fun x => lv (.bool x)) ?_) trivial
   unfold rgtX
   rw [decide_eq_true hg]
   have h64 : decide ((l.length : Int) ≤ 64) = decide (l.length ≤ 64) := by rw [Bool.eq_iff_iff]; simp; omega
   simp [h64]

theorem wbool_ok : Ct Tryz.prog 60 [lv (.bool true)] [] (B8 [1, 1, 255]) [] [] := by
 refine Ct_intro Tryz.func60 rfl rfl rfl rfl rfl (fun E hn hb => ?_)
 repeat refine nx ?_
 exact rt1 []
theorem wocts_ok (b : List Int) (hl : b.length ≤ 1000000) : Ct Tryz.prog 61 [B8 b] [] (.tup [B8 (wrapL (ofT 4) b), lv (.int .i64 0)]) [] [] := by
 have hho := headof_ok 4
 have h := wrapR_ok (ofT 4) [b] (by simp) (by simpa using hl)
 rw [show [b].flatten = b by simp] at h
 unfold wrapR at h
 rw [if_pos (by decide)] at h
 refine Ct_intro Tryz.func61 rfl rfl rfl rfl rfl (fun E hn hb => ?_)
 repeat refine nx ?_
 exact rt1 []
theorem bfail_ok (t : TagP) (l : List Int) : Ct Tryz.prog 53 [.c (.ptr 0 0), lv (.int .i64 0)] [sh1 t l 0, r8 l] (.tup []) [sh1 t l 0, r8 l] [] := by
 have h := boff_ok t l 0
 refine Ct_intro Tryz.func53 rfl rfl rfl rfl rfl (fun E hn hb => ?_)
 repeat refine nx ?_
 exact rt1 []
theorem wone_err (x : ExT) (h : okE x) (hr : rightO x.1 = false) : Ct Tryz.prog 20 [exA x] [] (.tup [B8 [], lv (.int .i64 1)]) [] [] := by
 have hw := owrite_ok x.1 h.1
 rw [show whoP x.1 = ([], 1) from if_neg (by simp [hr])] at hw
 obtain ⟨o, c, v⟩ := x
 refine Ct_intro Tryz.func20 rfl rfl rfl rfl rfl (fun E hn hb => ?_)
 repeat refine nx ?_
 exact rtU []
set_option maxHeartbeats 16000000 in
theorem wone_ok (x : ExT) (h : okE x) (hv : x.2.2.length ≤ 100000) (hr : rightO x.1 = true) : Ct Tryz.prog 20 [exA x] [] (.tup [B8 (wrX x), lv (.int .i64 0)]) [] [] := by
 have hw := owrite_ok x.1 h.1
 rw [show whoP x.1 = (wrapL (ofT 6) (arcsL (numsL x.1)), 0) from if_pos hr] at hw
 have hin := inX_len x hr
 have hwx := wrX_len x hr
 have ho := wocts_ok x.2.2 (by omega)
 have h1 := bnew_ok
 have h2 := headof_ok 16
 have h3 := bOpen_ok (ofT 16)
 have hb1 := wbool_ok
 have h5 := bshut_ok (ofT 16) (inX x) (by decide) (by omega)
 have h6 := bbytes_ok (wrX x) (by omega)
 change Ct _ _ _ _ _ [shC tag0 (.own 1 1 0 (wrX x).length) (.lf (.recs 5 [])) 0] [r8 (wrX x)] at h5
 obtain ⟨o, c, v⟩ := x
 dsimp only at hw ho
 unfold inX at hin h5
 dsimp only at hin h5
 generalize wrapL (ofT 6) (arcsL (numsL o)) = A at *
 generalize wrapL (ofT 4) v = V at *
 generalize wrX (o, c, v) = Z at *
 cases c with
 | false =>
   have e : A ++ (crX false ++ V) = A ++ V := by simp [crX]
   rw [e] at h5 hin
   have hlen : A.length + V.length ≤ 1000000 := by dsimp only at hv; rw [List.length_append] at hin; omega
   have p1 := bput_ok (ofT 16) [] A (by simp; omega)
   rw [List.nil_append] at p1
   have p2 := bput_ok (ofT 16) A V (by omega)
   have p3 := bfail_ok (ofT 16) A
   refine Ct_intro Tryz.func20 rfl rfl rfl rfl rfl (fun E hn hb => ?_)
   repeat refine nx ?_
   refine s_callM [80, 83] p1 rfl rfl (by rw [hn]; rfl) rfl rfl (by trivial) ⟨rfl, ⟨rfl, rfl⟩, (by simp [ordL]), rfl⟩ ?_
   repeat refine nx ?_
   refine s_callM [80, 87] p2 rfl rfl (by rw [hn]; rfl) rfl rfl (by trivial) ⟨rfl, ⟨rfl, rfl⟩, (by simp [ordL]), rfl⟩ ?_
   repeat refine nx ?_
   refine frcL 106 80 ?_
   repeat refine nx ?_
   refine frcL 108 80 ?_
   repeat refine nx ?_
   exact rt1 []
 | true =>
   have e : A ++ (crX true ++ V) = (A ++ [1, 1, 255]) ++ V := by simp [crX]
   rw [e] at h5 hin
   have hlen : A.length + V.length + 3 ≤ 1000000 := by dsimp only at hv; simp only [List.length_append, List.length_cons, List.length_nil] at hin; omega
   have p1 := bput_ok (ofT 16) [] A (by simp; omega)
   rw [List.nil_append] at p1
   have pt := bput_ok (ofT 16) A [1, 1, 255] (by simp; omega)
   have p2 := bput_ok (ofT 16) (A ++ [1, 1, 255]) V (by simp; omega)
   have p3 := bfail_ok (ofT 16) (A ++ [1, 1, 255])
   generalize A ++ [1, 1, 255] = A2 at *
   refine Ct_intro Tryz.func20 rfl rfl rfl rfl rfl (fun E hn hb => ?_)
   repeat refine nx ?_
   refine s_callM [80, 83] p1 rfl rfl (by rw [hn]; rfl) rfl rfl (by trivial) ⟨rfl, ⟨rfl, rfl⟩, (by simp [ordL]), rfl⟩ ?_
   repeat refine nx ?_
   refine s_callM [80, 87] pt rfl rfl (by rw [hn]; rfl) rfl rfl (by trivial) ⟨rfl, ⟨rfl, rfl⟩, (by simp [ordL]), rfl⟩ ?_
   repeat refine nx ?_
   refine s_callM [80, 93] p2 rfl rfl (by rw [hn]; rfl) rfl rfl (by trivial) ⟨rfl, ⟨rfl, rfl⟩, (by simp [ordL]), rfl⟩ ?_
   repeat refine nx ?_
   refine frcL 106 80 ?_
   repeat refine nx ?_
   refine frcL 108 80 ?_
   repeat refine nx ?_
   exact rt1 []

def wrXs (l : List ExT) : List Int := wrapL (ofT 16) (l.flatMap wrX)
theorem wrXs_next {l : List ExT} {i : Nat} (h : i < l.length) : (l.take (i + 1)).flatMap wrX = (l.take i).flatMap wrX ++ wrX (l.getD i default) := by
 rw [take_snoc h, List.flatMap_append]
 simp
theorem wrXs_le {l : List ExT} {i : Nat} (h : i ≤ l.length) : ((l.take i).flatMap wrX).length ≤ (l.flatMap wrX).length := by
 have : (l.take i).flatMap wrX ++ (l.drop i).flatMap wrX = l.flatMap wrX := by rw [← List.flatMap_append, List.take_append_drop]
 have := congrArg List.length this
 rw [List.length_append] at this
 omega
theorem xwrite_err (l : List ExT) (hl : l.length ≤ 1000) (h : ∀ e ∈ l, okE e) (hr : rgtX l = false) : Ct Tryz.prog 17 [exR l] [] (.tup [B8 [], lv (.int .i64 1)]) [] [] := by
 have h1 := xright_ok l hl h
 rw [hr] at h1
 refine Ct_intro Tryz.func17 rfl rfl rfl rfl rfl (fun E hn hb => ?_)
 repeat refine nx ?_
 exact rtU []
theorem rgt_right {l : List ExT} (h : rgtX l = true) : goodX l ∧ 0 < l.length ∧ l.length ≤ 64 := by
 simpa [rgtX] using h
set_option maxHeartbeats 16000000 in
theorem xwrite_ok (l : List ExT) (hl : l.length ≤ 1000) (h : ∀ e ∈ l, okE e) (hr : rgtX l = true) (hv : ∀ e ∈ l, e.2.2.length ≤ 100000) (hT : (l.flatMap wrX).length ≤ 900000) : Ct Tryz.prog 17 [exR l] [] (.tup [B8 (wrXs l), lv (.int .i64 0)]) [] [] := by
 have h1 := xright_ok l hl h
 rw [hr] at h1
 obtain ⟨hg, _, _⟩ := rgt_right hr
 have hml : (l.map exL).length = l.length := List.length_map ..
 have n1 := bnew_ok
 have n2 := headof_ok 16
 have n3 := bOpen_ok (ofT 16)
 have n5 := bshut_ok (ofT 16) (l.flatMap wrX) (by decide) hT
 have n6 := bbytes_ok (wrXs l) (by have := wrap_len (ofT 16) (l.flatMap wrX); unfold wrXs; omega)
 change Ct _ _ _ _ _ [shC tag0 (.own 1 1 0 (wrXs l).length) (.lf (.recs 5 [])) 0] [r8 (wrXs l)] at n5
 generalize hZ : wrXs l = Z at *
 refine Ct_intro Tryz.func17 rfl rfl rfl rfl rfl (fun E hn hb => ?_)
 repeat refine nx ?_
 rw [hml]
 refine W_sr (fun a w h => SR.mv 79 900 rfl rfl rfl rfl rfl h) ?_
 refine W_weaken (St.le_of (l := [(4, .c (.ptr 76 0)), (16, exR l), (17, lv (.int .i64 (l.length : Int))), (18, lv (.int .i64 ((0 : Nat) : Int)))]) (h := [(76, shC (ofT 16) (.own 900 1 0 (([] : List Int).length)) arC 0), (900, r8 [])]) (by refine ⟨?_, ?_⟩ <;> (repeat' (first | exact trivial | exact rfl | refine ⟨?_, ?_⟩)) <;> first | exact rfl | (simp; done) | skip)) ?_
 refine W_loop (ι := {i : Nat // i ≤ l.length}) (fun i => St.of [(4, .c (.ptr 76 0)), (16, exR l), (17, lv (.int .i64 (l.length : Int))), (18, lv (.int .i64 (i.1 : Int)))] [(76, shC (ofT 16) (.own 900 1 0 ((l.take i.1).flatMap wrX).length) arC 0), (900, r8 ((l.take i.1).flatMap wrX))]) (fun i => l.length - i.1) (fun i => ?_) ⟨0, Nat.zero_le _⟩
 obtain ⟨i, hi⟩ := i
 dsimp only
 by_cases hi2 : i < l.length
 · have hnx := wrXs_next hi2
   have hle := wrXs_le (l := l) (i := i + 1) (by omega)
   have hq : l.getD (i : Int).toNat default = l.getD i default := rfl
   have hw := wone_ok (l.getD i default) (okE_get h i hi2) (hv _ (get_mem hi2)) (hg.1 _ (get_mem hi2))
   rw [hnx] at hle
   have p := bput_ok (ofT 16) ((l.take i).flatMap wrX) (wrX (l.getD i default)) (by rw [← List.length_append]; omega)
   have pf := bfail_ok (ofT 16) ((l.take i).flatMap wrX)
   generalize wrX (l.getD i default) = W at *
   generalize (l.take i).flatMap wrX = acc at *
   generalize l.getD i default = x at *
   obtain ⟨o, c, v⟩ := x
   repeat (first | refine nx ?_ | rw [hq])
   refine s_callM [76, 900] p rfl rfl (by rw [hn]; rfl) rfl rfl (by trivial) ⟨rfl, ⟨rfl, rfl⟩, (by simp [ordL]), rfl⟩ ?_
   repeat refine nx ?_
   refine N_sr (fun a w h => SR.mv 97 900 rfl rfl rfl rfl rfl h) ?_
   refine N_round ⟨i + 1, by omega⟩ (by dsimp only; omega) (St.le_of ⟨⟨rfl, rfl, rfl, rfl⟩, ⟨?_, ?_⟩⟩)
   · dsimp only; rw [hnx]; rfl
   · dsimp only; rw [hnx]; rfl
 · obtain rfl : i = l.length := by omega
   rw [List.take_length]
   generalize l.flatMap wrX = X at *
   repeat refine nx ?_
   refine frcL 900 76 ?_
   repeat refine nx ?_
   refine frcL 100 76 ?_
   repeat refine nx ?_
   exact rt1 []
theorem rwholeO_ok (o : List Int) (hr : rightO o = true) : Ct Tryz.prog 63 [I64 o] [] (.c (.own 0 1 0 (wrapL (ofT 6) (arcsL (numsL o))).length)) [] [.row (.ints .u8 (wrapL (ofT 6) (arcsL (numsL o))))] := by
 have hc := refCon_ok o hr
 have hf := refoft_ok 6
 have hl := conO_len hr
 have hw := refwrapO_ok (ofT 6) (arcsL (numsL o)) (by decide) (by omega)
 generalize arcsL (numsL o) = X at *
 generalize ofT 6 = t at *
 generalize wrapL t X = Y at *
 refine Ct_intro Tryz.func63 rfl rfl rfl rfl rfl (fun E hn hb => ?_)
 repeat refine nx ?_
 exact rt1 [70]
set_option maxHeartbeats 16000000 in
theorem rwone_ok (x : ExT) (hv : x.2.2.length ≤ 100000) (hr : rightO x.1 = true) : Ct Tryz.prog 23 [exA x] [] (B8 (wrX x)) [] [] := by
 have hwh := rwholeO_ok x.1 hr
 have hin := inX_len x hr
 have hf4 := refoft_ok 4
 have hf := refoft_ok 16
 have hw4 := refwrap_ok (ofT 4) x.2.2 (by decide) (by omega)
 have hw := refwrap_ok (ofT 16) (inX x) (by decide) (by omega)
 change Ct _ _ _ _ (B8 (wrX x)) _ _ at hw
 obtain ⟨o, c, v⟩ := x
 dsimp only at hwh hw4
 unfold inX at hin hw
 dsimp only at hin hw
 generalize wrapL (ofT 6) (arcsL (numsL o)) = A at *
 generalize wrapL (ofT 4) v = V at *
 generalize wrX (o, c, v) = Z at *
 cases c with
 | false =>
   have e : A ++ (crX false ++ V) = A ++ V := by simp [crX]
   rw [e] at hin hw
   have hlen : A.length + V.length ≤ 1000000 := by dsimp only at hv; rw [List.length_append] at hin; omega
   refine Ct_intro Tryz.func23 rfl rfl rfl rfl rfl (fun E hn hb => ?_)
   repeat refine nxw ?_
   refine du3E [81] [(5, 70), (5, 81)] ?_
   repeat refine nx ?_
   refine frzL 19 ?_
   repeat refine nx ?_
   exact rt1 []
 | true =>
   have e : A ++ (crX true ++ V) = (A ++ [1, 1, 255]) ++ V := by simp [crX]
   rw [e] at hin hw
   have hlen : A.length + V.length + 3 ≤ 1000000 := by dsimp only at hv; simp only [List.length_append, List.length_cons, List.length_nil] at hin; omega
   refine Ct_intro Tryz.func23 rfl rfl rfl rfl rfl (fun E hn hb => ?_)
   repeat refine nxw ?_
   refine du3E [81] [(5, 70), (5, 81)] ?_
   repeat refine nx ?_
   refine frzL 19 ?_
   repeat refine nx ?_
   exact rt1 []

set_option maxHeartbeats 16000000 in
theorem rwrite17_ok (l : List ExT) (hl : l.length ≤ 1000) (hg : goodX l) (hv : ∀ e ∈ l, e.2.2.length ≤ 100000) (hT : (l.flatMap wrX).length ≤ 900000) : Ct Tryz.prog 24 [exR l] [] (B8 (wrXs l)) [] [] := by
 have hml : (l.map exL).length = l.length := List.length_map ..
 have hf := refoft_ok 16
 have hw := refwrap_ok (ofT 16) (l.flatMap wrX) (by decide) (by omega)
 change Ct _ _ _ _ (B8 (wrXs l)) _ _ at hw
 generalize wrXs l = Z at *
 refine Ct_intro Tryz.func24 rfl rfl rfl rfl rfl (fun E hn hb => ?_)
 repeat refine nx ?_
 refine W_own_nil 3 900 1 (.ints .u8 []) rfl rfl (.inr (.inl ⟨_, rfl⟩)) ?_
 refine W_weaken (St.le_of (l := [(0, exR l), (3, .c (.own 900 1 0 ([] : List Int).length)), (4, lv (.int .i64 ((0 : Nat) : Int)))]) (h := [(900, .row (.ints .u8 []))]) (by refine ⟨?_, ?_⟩ <;> (repeat' (first | exact trivial | exact rfl | refine ⟨?_, ?_⟩)) <;> first | exact rfl | (simp; done) | skip)) ?_
 refine W_loop (ι := {i : Nat // i ≤ l.length}) (fun i => St.of [(0, exR l), (3, .c (.own 900 1 0 ((l.take i.1).flatMap wrX).length)), (4, lv (.int .i64 (i.1 : Int)))] [(900, .row (.ints .u8 ((l.take i.1).flatMap wrX)))]) (fun i => l.length - i.1) (fun i => ?_) ⟨0, Nat.zero_le _⟩
 obtain ⟨i, hi⟩ := i
 dsimp only
 by_cases hi2 : i < l.length
 · have hnx := wrXs_next hi2
   have hle := wrXs_le (l := l) (i := i + 1) (by omega)
   have hq : l.getD (i : Int).toNat default = l.getD i default := rfl
   have ho := rwone_ok (l.getD i default) (hv _ (get_mem hi2)) (hg.1 _ (get_mem hi2))
   rw [hnx, List.length_append] at hle
   generalize wrX (l.getD i default) = W at *
   generalize (l.take i).flatMap wrX = acc at *
   generalize l.getD i default = x at *
   obtain ⟨o, c, v⟩ := x
   repeat (first | refine nx ?_ | rw [hq])
   refine N_round ⟨i + 1, by omega⟩ (by dsimp only; omega) (St.le_of ⟨⟨rfl, ?_, rfl⟩, ?_⟩)
   · dsimp only; rw [hnx]; rfl
   · dsimp only; rw [hnx]; rfl
 · obtain rfl : i = l.length := by omega
   rw [List.take_length]
   generalize l.flatMap wrX = X at *
   repeat refine nxw ?_
   trace_state
   refine frzL 19 ?_
   repeat refine nx ?_
   exact rt1 []
theorem exsR_fwd (A C : List Int) {l : List ExT} (hw : ∀ e ∈ l, WfB e.2.2) (hr : rgtX l = true) (hv : ∀ e ∈ l, e.2.2.length ≤ 100000) (hT : (l.flatMap wrX).length ≤ 900000) (hX : WfB (l.flatMap wrX)) :
   exsR (A ++ (wrXs l ++ C)) A.length = (l, A.length + (wrXs l).length, 0) := by
 obtain ⟨hg, h0, h64⟩ := rgt_right hr
 have ho := openP_at A (l.flatMap wrX) C (ofT 16) (by decide) (by omega)
 change openP (A ++ (wrXs l ++ C)) A.length (ofT 16) = (l.flatMap wrX, A.length + (wrXs l).length, 0) at ho
 have hne : l.flatMap wrX ≠ [] := by
   match l, h0 with
   | e :: t, _ =>
     rw [List.flatMap_cons]
     intro h
     have := wrap_ge (ofT 16) (inX e)
     change 1 ≤ (wrX e).length at this
     have h2 := congrArg List.length h
     rw [List.length_append, List.length_nil] at h2
     omega
 have hf := allX_fwd hX l ((l.flatMap wrX).length + 1) 0 [] (Nat.zero_le _) (by omega) (by simpa using hg) (by simpa using h64) hv rfl
 unfold exsR
 rw [ho]
 dsimp only
 rw [if_pos rfl]
 unfold allP
 rw [if_neg hne, hf]
 rfl
theorem crX_wf (c : Bool) : WfB (crX c) := by
 cases c with
 | false => intro x hx; cases hx
 | true => intro x hx; simp [crX] at hx; omega
theorem inX_wf {x : ExT} (h : WfB x.2.2) : WfB (inX x) := wfB_appV (wrap_wfV _ _ (by decide) (arcsL_wfV _)) (wfB_appV (crX_wf _) (wrap_wfV _ _ (by decide) h))
theorem wrX_wf {x : ExT} (h : WfB x.2.2) : WfB (wrX x) := wrap_wfV _ _ (by decide) (inX_wf h)
theorem fmX_wf {l : List ExT} (h : ∀ e ∈ l, WfB e.2.2) : WfB (l.flatMap wrX) := fun x hx => by
 obtain ⟨e, he, hx⟩ := List.mem_flatMap.1 hx
 exact wrX_wf (h e he) x hx
theorem fmX_len {N : Nat} : ∀ {l : List ExT}, (∀ e ∈ l, rightO e.1 = true ∧ e.2.2.length ≤ N) → (l.flatMap wrX).length ≤ l.length * (N + 1020)
 | [], _ => by simp
 | e :: l, h => by
   have ih := fmX_len (N := N) (l := l) fun x hx => h x (List.mem_cons_of_mem _ hx)
   have h1 := h e (List.mem_cons_self ..)
   have h2 := wrX_len e h1.1
   rw [List.flatMap_cons, List.length_append, List.length_cons, Nat.add_mul, Nat.one_mul]
   omega
end Go.Proofs.YtaagjnlkinojcaaGreatDoor

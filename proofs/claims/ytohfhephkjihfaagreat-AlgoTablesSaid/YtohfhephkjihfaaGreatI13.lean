/-
  Chapter 18's law AlgoTables, walked: it returns true. The conditions: rows that a machine can hold.
-/
import Derived.Test.YtohfhephkjihfaaGreatI12
import Derived.Test.YtohfhephkjihfaaGreatA17
import Derived.Test.YtohfhephkjihfaaGreatI1
namespace Go.Proofs.YtohfhephkjihfaaGreat
set_option linter.unusedSimpArgs false
set_option linter.unusedVariables false
open Go Go.Sx
set_option maxRecDepth 10000
theorem byD1O_ok (n d : List Int) (hn1 : n.length ≤ 1000) (hw : WfB n) (hd : d.length = 32) : Ct Tryz.prog 27 [B8 n, .c (.ptr 0 0)] [.cells [.own 1 1 0 32], .row (.ints .u8 d)] (lv (.bool (decide (digS n = d)))) [.cells [.own 1 1 0 32], .row (.ints .u8 d)] [] := by
 have h1 := msum_ok [n] (fun b hb => by rw [List.mem_singleton.1 hb]; exact hw) (by simp) (by simp; omega)
 have e : [n].flatten = n := by simp
 rw [e] at h1
 have hdl : (digS n).length = 32 := digS_len _
 have h2 := equal_ok (digS n) d (by omega) (by omega)
 generalize digS n = D at *
 have hdn := ne32 hdl
 have hdn2 := ne32 hd
 generalize decide (D = d) = bb at *
 refine Ct_intro Tryz.func27 rfl rfl rfl rfl rfl (fun E hn hb => ?_)
 repeat (first | refine s_allocAN .u8 32 rfl rfl rfl (by rw [hn]; rfl) (by kernel_rfl) ?_ | refine nx ?_)
 refine s_storeA rfl rfl rfl rfl rfl (by exact vcs) rfl (by rw [cellsOf43]; first | rfl | assumption | omega | kernel_rfl | (simp; done) | (simp; omega) | (simp at *; omega)) (by first | rfl | assumption | omega | kernel_rfl | (simp; done) | (simp; omega) | (simp at *; omega)) (by first | assumption | (simp; done) | exact List.cons_ne_nil _ _) ?_
 repeat refine nx ?_
 refine dup1 (hp := ?_) ?_
 rotate_left
 · exact ⟨rfl, by omega, hdn, show 32 ≤ maxLen from by decide⟩
 repeat refine nx ?_
 exact rt1 []
theorem idxO_ok (ks : List ByteArray) (d : List Int) (hks : ∀ k ∈ ks, k.size ≤ 1000) (hl : ks.length ≤ 10000) (hd : d.length = 32) : Ct Tryz.prog 26 [.c (.lf (.recs 1 (ks.map bsR))), .c (.fn (.func 27) [] [.ptr 0 0])] [.cells [.own 1 1 0 32], .row (.ints .u8 d)] (lv (.int .i64 (fsD d ks 0))) [.cells [.own 1 1 0 32], .row (.ints .u8 d)] [] := by
 obtain ⟨R, hR⟩ : ∃ R, fsD d ks 0 = R := ⟨_, rfl⟩
 rw [hR]
 have hlm : ((ks.map bsR).length : Int) = (ks.length : Int) := by simp
 refine Ct_intro Tryz.func26 rfl rfl rfl rfl rfl (fun E hn hb => ?_)
 repeat refine nx ?_
 rw [hlm]
 refine W_weaken (St.le_of (l := [(0, .c (.lf (.recs 1 (ks.map bsR)))), (1, .c (.fn (.func 27) [] [.ptr 0 0])), (7, lv (.int .i64 (ks.length : Int))), (8, lv (.int .i64 ((0 : Nat) : Int)))]) (h := [(0, .cells [.own 1 1 0 32]), (1, .row (.ints .u8 d))]) (by refine ⟨?_, ?_⟩ <;> (repeat' (first | exact trivial | exact rfl | refine ⟨?_, ?_⟩)) <;> first | exact rfl | (simp; done) | skip)) ?_
 refine W_loop (ι := {i : Nat // i ≤ ks.length ∧ fsD d (ks.drop i) i = R}) (fun i => St.of [(0, .c (.lf (.recs 1 (ks.map bsR)))), (1, .c (.fn (.func 27) [] [.ptr 0 0])), (7, lv (.int .i64 (ks.length : Int))), (8, lv (.int .i64 (i.1 : Int)))] [(0, .cells [.own 1 1 0 32]), (1, .row (.ints .u8 d))]) (fun i => ks.length - i.1) (fun i => ?_) ⟨0, by omega, hR⟩
 obtain ⟨i, hi, hf⟩ := i
 dsimp only
 repeat refine nx ?_
 refine W_cond rfl (by simp) (fun hc => ?_) (fun hc => ?_)
 · have hi2 : i < ks.length := by simpa using hc
   have hx : ks.getD (i : Int).toNat default = ks[i] := by simp [hi2]
   have hs1 : ks[i].size ≤ 1000 := hks _ (List.getElem_mem hi2)
   rw [List.drop_eq_getElem_cons hi2] at hf
   unfold fsD at hf
   have hb1 := byD1O_ok (bs ks[i]) d (by rw [bs_len]; exact hs1) (bs_wf _) hd
   generalize ks[i] = k at *
   by_cases he : digS (bs k) = d
   · rw [if_pos he] at hf
     rw [decide_eq_true he] at hb1
     subst hf
     repeat (first | refine nx ?_ | rw [hx])
     exact rt1 []
   · rw [if_neg he] at hf
     rw [decide_eq_false he] at hb1
     repeat (first | refine nx ?_ | rw [hx])
     exact N_round ⟨i + 1, by omega, hf⟩ (by dsimp only; omega) (St.le_of ⟨⟨rfl, rfl, rfl, rfl⟩, ⟨rfl, rfl⟩⟩)
 · have hi2 : i = ks.length := by simp at hc; omega
   subst hi2
   rw [List.drop_length] at hf
   subst hf
   repeat refine nx ?_
   exact rt1 []
theorem bydigO_ok (es : MapL) (d : List Int) (hks : ∀ p ∈ es, p.1.size ≤ 1000) (hes : es.length ≤ 10000) (hd : d.length = 32) : Ct Tryz.prog 14 [.c (.ptr 0 0), .c (.own 2 1 0 32)] [tabB, .map es, .row (.ints .u8 d)] (.tup [B8 (bdP es d).1, lv (.int .i64 (bdP es d).2)]) [tabB, .map es, .row (.ints .u8 d)] [] := by
 have h1 := names_any es hks hes
 have hl := srtK_len es
 have hsz : ∀ k ∈ srtK es, k.size ≤ 1000 := fun k hk => by
   unfold srtK at hk
   obtain ⟨l, hl1, rfl⟩ := List.mem_map.1 hk
   have := (List.mergeSort_perm (keyBs es) leB8).mem_iff.1 hl1
   unfold keyBs at this
   obtain ⟨p, hp, rfl⟩ := List.mem_map.1 this
   exact hks p hp
 unfold bdP
 have h2 := idxO_ok (srtK es) d hsz (by omega) hd
 have hr := fsD_rng d (srtK es) 0
 generalize srtK es = ks at *
 generalize fsD d ks 0 = R at *
 by_cases hR : R < 0
 · rw [if_pos hR]
   refine Ct_intro Tryz.func14 rfl rfl rfl rfl rfl (fun E hn hb => ?_)
   repeat refine nx ?_
   refine s_call [67, 2] h2 rfl rfl (by rw [hn]; rfl) rfl rfl (by trivial) ⟨rfl, ⟨rfl, rfl⟩, by simp [ordL], rfl⟩ ?_
   repeat refine nx ?_
   exact rtU []
 · rw [if_neg hR]
   have hR2 : 0 ≤ R ∧ R.toNat < ks.length := by
     rcases hr with h | h <;> omega
   refine Ct_intro Tryz.func14 rfl rfl rfl rfl rfl (fun E hn hb => ?_)
   repeat refine nx ?_
   refine s_call [67, 2] h2 rfl rfl (by rw [hn]; rfl) rfl rfl (by trivial) ⟨rfl, ⟨rfl, rfl⟩, by simp [ordL], rfl⟩ ?_
   repeat refine nx ?_
   exact rt1 []
set_option maxHeartbeats 8000000 in
theorem rbydigO_ok (L : List PairT) (d : List Int) (hL : L.length ≤ 100) (hls : ∀ p ∈ L, p.1.length ≤ 1000 ∧ WfB p.1) (hd : d.length = 32) :
   Ct Tryz.prog 15 [.c (.ptr 0 0), .c (.own 2 1 0 32)] [rtB L, rowP L, .row (.ints .u8 d)] (.tup [B8 (bdR d L).1, lv (.int .i64 (bdR d L).2)]) [rtB L, rowP L, .row (.ints .u8 d)] [] := by
 obtain ⟨R, hR⟩ : ∃ R, bdR d L = R := ⟨_, rfl⟩
 rw [hR]
 have hdn2 := ne32 hd
 refine Ct_intro Tryz.func15 rfl rfl rfl rfl rfl (fun E hn hb => ?_)
 repeat refine nx ?_
 refine W_weaken (St.le_of (l := [(0, .c (.ptr 0 0)), (1, .c (.own 2 1 0 32)), (6, lv (.int .i64 ((0 : Nat) : Int)))]) (h := [(0, rtB L), (1, rowP L), (2, .row (.ints .u8 d))]) (by refine ⟨?_, ?_⟩ <;> (repeat' (first | exact trivial | exact rfl | refine ⟨?_, ?_⟩)) <;> first | exact rfl | (simp; done) | skip)) ?_
 refine W_loop (ι := {i : Nat // i ≤ L.length ∧ bdR d (L.drop i) = R}) (fun i => St.of [(0, .c (.ptr 0 0)), (1, .c (.own 2 1 0 32)), (6, lv (.int .i64 (i.1 : Int)))] [(0, rtB L), (1, rowP L), (2, .row (.ints .u8 d))]) (fun i => L.length - i.1) (fun i => ?_) ⟨0, by omega, hR⟩
 obtain ⟨i, hi, hf⟩ := i
 have hlm : ((L.map prL).length : Int) = (L.length : Int) := by simp
 dsimp only
 repeat (first | refine nx ?_ | rw [hlm])
 refine W_cond rfl (by simp) (fun hc => ?_) (fun hc => ?_)
 · have hi2 : i < L.length := by simpa using hc
   obtain ⟨q, hq⟩ : ∃ q, L[i] = q := ⟨_, rfl⟩
   obtain ⟨hq1, hq2⟩ := hls q (hq ▸ List.getElem_mem hi2)
   rw [List.drop_eq_getElem_cons hi2, hq] at hf
   unfold bdR at hf
   have hs := refsum_ok q.1 hq2 (by omega)
   have hdl : (digS q.1).length = 32 := digS_len _
   have hdn := ne32 hdl
   have hsm := same_ok (digS q.1) d (by omega) (by omega)
   have hx3 : L.getD (i : Int).toNat ([], []) = q := by
     rw [List.getD_eq_getElem?_getD, show (i : Int).toNat = i by omega, List.getElem?_eq_getElem hi2, hq]; rfl
   have hx4 : L.getD (0 + (i : Int).toNat) ([], []) = q := by
     rw [Nat.zero_add]; exact hx3
   generalize digS q.1 = D at *
   by_cases he : D = d
   · rw [if_pos he] at hf
     rw [decide_eq_true he] at hsm
     subst hf
     repeat (first | refine s_allocAN .u8 32 rfl rfl rfl (by rw [hn]; rfl) (by kernel_rfl) ?_ | refine nx ?_ | refine lp1 hn ?_ | rw [hx3] | rw [hx4])
     refine s_storeA rfl rfl rfl rfl rfl (by exact vcs) rfl (by rw [cellsOf43]; first | rfl | assumption | omega | kernel_rfl | (simp; done) | (simp; omega) | (simp at *; omega)) (by first | rfl | assumption | omega | kernel_rfl | (simp; done) | (simp; omega) | (simp at *; omega)) (by first | assumption | (simp; done) | exact List.cons_ne_nil _ _) ?_
     repeat (first | refine nx ?_ | refine lp1 hn ?_ | rw [hx3] | rw [hx4])
     refine sp1 (hp := ?_) ?_
     rotate_left
     · exact ⟨rfl, by omega, hdn, show 32 ≤ maxLen from by decide⟩
     repeat (first | refine nx ?_ | refine lp1 hn ?_ | rw [hx3] | rw [hx4])
     exact rt1 []
   · rw [if_neg he] at hf
     rw [decide_eq_false he] at hsm
     repeat (first | refine s_allocAN .u8 32 rfl rfl rfl (by rw [hn]; rfl) (by kernel_rfl) ?_ | refine nx ?_ | refine lp1 hn ?_ | rw [hx3] | rw [hx4])
     refine s_storeA rfl rfl rfl rfl rfl (by exact vcs) rfl (by rw [cellsOf43]; first | rfl | assumption | omega | kernel_rfl | (simp; done) | (simp; omega) | (simp at *; omega)) (by first | rfl | assumption | omega | kernel_rfl | (simp; done) | (simp; omega) | (simp at *; omega)) (by first | assumption | (simp; done) | exact List.cons_ne_nil _ _) ?_
     repeat (first | refine nx ?_ | refine lp1 hn ?_ | rw [hx3] | rw [hx4])
     refine sp1 (hp := ?_) ?_
     rotate_left
     · exact ⟨rfl, by omega, hdn, show 32 ≤ maxLen from by decide⟩
     repeat (first | refine nx ?_ | refine lp1 hn ?_ | rw [hx3] | rw [hx4])
     exact N_round ⟨i + 1, by omega, hf⟩ (by dsimp only; omega) (St.le_of ⟨⟨rfl, rfl, rfl⟩, ⟨rfl, rfl, rfl⟩⟩)
 · have hi2 : i = L.length := by simp at hc; omega
   subst hi2
   rw [List.drop_length] at hf
   subst hf
   repeat refine nx ?_
   exact rtU []

abbrev ActT : Type := Int × List Int × List Int
abbrev acL (a : ActT) : List Leaf := [.v (.int .i64 a.1), .ints .u8 a.2.1, .ints .u8 a.2.2]
instance actI : Inhabited ActT := ⟨(0, [], [])⟩
theorem act_mem {l : List ActT} {i : Nat} (h : i < l.length) : l.getD i default ∈ l := by
 rw [List.getD_eq_getElem?_getD, List.getElem?_eq_getElem h]
 exact List.getElem_mem h
theorem bdR_len (D : List Int) : ∀ {L : List PairT}, (∀ p ∈ L, p.1.length ≤ 64) → (bdR D L).1.length ≤ 64
 | [], _ => by simp [bdR]
 | p :: L, h => by
   unfold bdR
   split
   · exact h p (List.mem_cons_self ..)
   · exact bdR_len D fun q hq => h q (List.mem_cons_of_mem _ hq)
abbrev nmL (p : PairT) : List Leaf := [.ints .u8 p.1]
set_option maxHeartbeats 64000000 in
theorem tabs18_ok (l : List ActT) (hl : l.length ≤ 9223372036854775807) (hw : ∀ a ∈ l, (a.2.1.length ≤ 9223372036854775807 ∧ WfB a.2.1) ∧ (a.2.2.length ≤ 9223372036854775807 ∧ WfB a.2.2)) :
   Ct Tryz.prog 3 [.c (.lf (.recs 3 (l.map acL)))] [] (lv (.bool true)) [] [] := by
 have hnew := tnew_ok
 have hkn := known18_ok
 have hml : (l.map acL).length = l.length := List.length_map ..
 refine Ct_intro Tryz.func3 rfl rfl rfl rfl rfl (fun E hn hb => ?_)
 repeat refine nxm ?_
 refine W_sr (fun a w h => cell_nilR2 2 85 0 900 rfl rfl rfl rfl rfl h) ?_
 refine W_weaken (St.le_of (l := [(0, .c (.lf (.recs 3 (l.map acL)))), (3, .c (.ptr 83 0)), (4, .c (.ptr 85 0)), (5, lv (.int .i64 ((0 : Nat) : Int)))]) (h := [(83, .cells [.map 1083]), (1083, .map []), (85, .cells [.own 900 2 0 ([] : List PairT).length]), (900, rowP [])]) (by refine ⟨?_, ?_⟩ <;> (repeat' (first | exact trivial | exact rfl | refine ⟨?_, ?_⟩)) <;> first | exact rfl | (simp; done) | skip)) ?_
 refine W_loop (ι := {q : Nat × MapL × List PairT // q.1 ≤ l.length ∧ q.1 ≤ 60 ∧ TI q.2.1 q.2.2 ∧ q.2.2.length ≤ q.1}) (fun q => St.of [(0, .c (.lf (.recs 3 (l.map acL)))), (3, .c (.ptr 83 0)), (4, .c (.ptr 85 0)), (5, lv (.int .i64 (q.1.1 : Int)))] [(83, .cells [.map 1083]), (1083, .map q.1.2.1), (85, .cells [.own 900 2 0 q.1.2.2.length]), (900, rowP q.1.2.2)]) (fun q => 60 - q.1.1) (fun q => ?_) ⟨(0, [], []), Nat.zero_le _, Nat.zero_le _, ⟨.refl _, List.Pairwise.nil, fun p hp => by cases hp⟩, Nat.zero_le _⟩
 obtain ⟨⟨i, es, L⟩, hi, hi60, hT, hL⟩ := q
 dsimp only at hi hi60 hT hL ⊢
 by_cases hi2 : i < l.length ∧ i < 60
 · have hq : l.getD (i : Int).toNat default = l.getD i default := rfl
   have ha := hw _ (act_mem hi2.1)
   generalize l.getD i default = a at *
   obtain ⟨k, n0, s0⟩ := a
   dsimp only at ha
   repeat (first | refine nxm ?_ | rw [hq])
   refine sp false rfl rfl (by rw [hn]; rfl) (by simp) ?_
   have hU : 0 ≤ IntKind.u64.wrap k ∧ IntKind.u64.wrap k < 18446744073709551616 := by simp only [IntKind.wrap, IntKind.signed, IntKind.bits]; simp; omega
   generalize IntKind.u64.wrap k = U at *
   have hm1 : (n0.take (min (n0.length : Int) 100).toNat).length ≤ 100 ∧ WfB (n0.take (min (n0.length : Int) 100).toNat) := ⟨by simp; omega, fun x hx => ha.1.2 x (List.mem_of_mem_take hx)⟩
   have hm2 : (s0.take (min (s0.length : Int) 300).toNat).length ≤ 300 ∧ WfB (s0.take (min (s0.length : Int) 300).toNat) := ⟨by simp; omega, fun x hx => ha.2.2 x (List.mem_of_mem_take hx)⟩
   generalize n0.take (min (n0.length : Int) 100).toNat = n at *
   generalize s0.take (min (s0.length : Int) 300).toNat = s at *
   refine nxm ?_
   have hr : 0 ≤ U % 5 ∧ U % 5 ≤ 4 := by omega
   generalize U % 5 = r at *
   refine WL_nil ?_
   refine N_then ?_
   refine W_joinF (ι := {q : MapL × List PairT // TI q.1 q.2 ∧ q.2.length ≤ i + 1}) (fun q => St.of [(0, .c (.lf (.recs 3 (l.map acL)))), (3, .c (.ptr 83 0)), (4, .c (.ptr 85 0)), (5, lv (.int .i64 (i : Int)))] [(83, .cells [.map 1083]), (1083, .map q.1.1), (85, .cells [.own 900 2 0 q.1.2.length]), (900, rowP q.1.2)]) ?_ (fun q => ?_)
   · have : r = 0 ∨ r = 1 ∨ r = 2 ∨ r = 3 ∨ r = 4 := by omega
     have hes := hT.len
     have hls : ∀ p ∈ L, p.1.length ≤ 1000000 := fun p hp => by have := (hT.ok p hp).1; omega
     have hfn := hT.find hm1.2
     rcases this with rfl | rfl | rfl | rfl | rfl
     · have ht := tput_all es n s (by omega) (by omega) (by omega) (by rw [hfn]; cases gtR L n with | none => exact .inl rfl | some x => exact .inr ⟨x, rfl⟩)
       by_cases ho : okN n s = true
       · rw [if_pos ho, if_pos ho] at ht
         obtain ⟨o1, o2, o3, o4⟩ := okN_iff.1 ho
         have hTp := hT.put ⟨o2, hm1.2⟩ ⟨o4, hm2.2⟩
         have hLp := insP_len L n s
         cases hf : (plP L n).2 with
         | false =>
           have hr := rput_new L n s (by omega) hls ⟨o1, o2⟩ ⟨o3, o4⟩ hf
           rw [ins_new L n s hf] at hr
           generalize insP L n s = L2 at *
           generalize setM es (strOfNums n) (.ints .u8 s) = es2 at *
           repeat refine nxw ?_
           refine frcW 900 85 ?_ (hp := ?_)
           rotate_left
           · exact (List.length_map ..).symm
           refine du3E [150] [(5, 83), (5, 1083), (11, 85), (11, 150)] ?_
           repeat (first | refine nxm ?_ | refine dcn1 [83, 1083] hn ht ?_ | refine dcn1 [85] hn hr ?_)
           refine N_sr (fun a w h => SR.mv 150 900 rfl rfl rfl rfl rfl h) ?_
           exact N_joinF ⟨(es2, L2), hTp, by dsimp only; omega⟩ (St.le_of ⟨⟨rfl, rfl, rfl, rfl⟩, ⟨rfl, rfl, rfl, rfl⟩⟩)
         | true =>
           have hr := rput_upd L n s (by omega) hls ⟨o1, o2⟩ ⟨o3, o4⟩ hf
           rw [ins_upd L n s hf] at hr
           have hLe : (insP L n s).length = L.length := by rw [← ins_upd L n s hf, List.length_set]
           generalize insP L n s = L2 at *
           generalize setM es (strOfNums n) (.ints .u8 s) = es2 at *
           repeat refine nxw ?_
           refine du3E [] [(5, 83), (5, 1083), (11, 85), (11, 900)] ?_
           repeat (first | refine nxm ?_ | refine dcn1 [83, 1083] hn ht ?_ | refine dcn1 [85, 900] hn hr ?_)
           exact N_joinF ⟨(es2, L2), hTp, by dsimp only; omega⟩ (St.le_of ⟨⟨rfl, rfl, rfl, rfl⟩, ⟨rfl, rfl, by rw [hLe]; rfl, rfl⟩⟩)
       · rw [if_neg ho, if_neg ho] at ht
         have hr := rput_err L n s (fun h => ho (okN_iff.2 h)) (by omega) (by omega)
         repeat refine nxw ?_
         refine du3E [] [(5, 83), (5, 1083), (11, 85), (11, 900)] ?_
         repeat (first | refine nxm ?_ | refine dcn1 [83, 1083] hn ht ?_ | refine dcn1 [85, 900] hn hr ?_)
         exact N_joinF ⟨(es, L), hT, by dsimp only; omega⟩ (St.le_of ⟨⟨rfl, rfl, rfl, rfl⟩, ⟨rfl, rfl, rfl, rfl⟩⟩)
     · have hpn := pl_none L n
       cases hf : (plP L n).2 with
       | false =>
         rw [hpn.1 hf] at hfn
         have ht := tdrop_no es n hfn
         have hr := rdropB_no L n (by omega) hls (by omega) hf
         repeat refine nxw ?_
         refine du3E [] [(3, 83), (3, 1083), (7, 85), (7, 900)] ?_
         repeat (first | refine nxm ?_ | refine dcn1 [83, 1083] hn ht ?_ | refine dcn1 [85, 900] hn hr ?_)
         exact N_joinF ⟨(es, L), hT, by dsimp only; omega⟩ (St.le_of ⟨⟨rfl, rfl, rfl, rfl⟩, ⟨rfl, rfl, rfl, rfl⟩⟩)
       | true =>
         obtain ⟨x, hx⟩ : ∃ x, gtR L n = some x := by
           cases hg : gtR L n with
           | some x => exact ⟨x, rfl⟩
           | none => rw [hpn.2 hg] at hf; cases hf
         rw [hx] at hfn
         have ht := tdrop_ok es n x hfn
         have hr := rdropB_ok L n (by omega) hls (by omega) hf
         have hTd := hT.drop hm1.2 hf
         have hLd : (L.eraseIdx (plP L n).1).length ≤ L.length := List.length_eraseIdx_le ..
         generalize L.eraseIdx (plP L n).1 = L2 at *
         generalize delM es (strOfNums n) = es2 at *
         repeat refine nxw ?_
         refine frcW 900 85 ?_ (hp := ?_)
         rotate_left
         · exact (List.length_map ..).symm
         refine du3E [161] [(3, 83), (3, 1083), (7, 85), (7, 161)] ?_
         repeat (first | refine nxm ?_ | refine dcn1 [83, 1083] hn ht ?_ | refine dcn1 [85] hn hr ?_)
         refine N_sr (fun a w h => SR.mv 161 900 rfl rfl rfl rfl rfl h) ?_
         exact N_joinF ⟨(es2, L2), hTd, by dsimp only; omega⟩ (St.le_of ⟨⟨rfl, rfl, rfl, rfl⟩, ⟨rfl, rfl, rfl, rfl⟩⟩)
     · have hgp := gtP_R L n
       cases hg : gtR L n with
       | none =>
         rw [hg] at hfn hgp
         have ht := tget_no es n (by omega) hfn
         have hr := rget_no L n (by omega) hls (by omega) hgp
         have hsm := same_ok [] [] (by simp) (by simp)
         rw [decide_eq_true rfl] at hsm
         repeat refine nxm ?_
         exact N_joinF ⟨(es, L), hT, by dsimp only; omega⟩ (St.le_of ⟨⟨rfl, rfl, rfl, rfl⟩, ⟨rfl, rfl, rfl, rfl⟩⟩)
       | some x =>
         rw [hg] at hfn hgp
         obtain ⟨q, hq2, hqn, rfl⟩ := gt_name hg
         have hx := (hT.ok q hq2).2.2.1
         have hn64 : n.length ≤ 64 := hqn ▸ (hT.ok q hq2).1
         have ht := tget_ok es n q.2 hn64 hx hfn
         have hr := rget_ok L n q.2 (by omega) hls (by omega) hgp
         have hsm := same_ok q.2 q.2 (by omega) (by omega)
         rw [decide_eq_true rfl] at hsm
         generalize q.2 = x at *
         repeat refine nxm ?_
         exact N_joinF ⟨(es, L), hT, by dsimp only; omega⟩ (St.le_of ⟨⟨rfl, rfl, rfl, rfl⟩, ⟨rfl, rfl, rfl, rfl⟩⟩)
     · have hs := refsum_ok n hm1.2 (by omega)
       have hdl : (digS n).length = 32 := digS_len _
       have hdn := ne32 hdl
       have ht := bydigO_ok es (digS n) hT.keys (by omega) hdl
       have hr := rbydigO_ok L (digS n) (by omega) (fun p hp => ⟨by have := (hT.ok p hp).1; omega, (hT.ok p hp).2.1⟩) hdl
       rw [hT.dig] at ht
       have hbl := bdR_len (digS n) fun p hp => (hT.ok p hp).1
       have hsm := same_ok (bdR (digS n) L).1 (bdR (digS n) L).1 (by omega) (by omega)
       rw [decide_eq_true rfl] at hsm
       generalize bdR (digS n) L = R at *
       generalize digS n = D at *
       repeat (first | refine s_allocAN .u8 32 rfl rfl rfl (by rw [hn]; rfl) (by kernel_rfl) ?_ | refine nxm ?_)
       refine s_storeA rfl rfl rfl rfl rfl (by exact vcs) rfl (by rw [cellsOf43]; first | rfl | assumption | omega | kernel_rfl | (simp; done) | (simp; omega) | (simp at *; omega)) (by first | rfl | assumption | omega | kernel_rfl | (simp; done) | (simp; omega) | (simp at *; omega)) (by first | assumption | (simp; done) | exact List.cons_ne_nil _ _) ?_
       repeat (first | refine nxm ?_)
       refine sp1 (hp := ?_) ?_
       rotate_left
       · exact ⟨rfl, by omega, hdn, show 32 ≤ maxLen from by decide⟩
       repeat (first | refine nxm ?_)
       refine sp1 (hp := ?_) ?_
       rotate_left
       · exact ⟨rfl, by omega, hdn, show 32 ≤ maxLen from by decide⟩
       repeat refine nxm ?_
       exact N_joinF ⟨(es, L), hT, by dsimp only; omega⟩ (St.le_of ⟨⟨rfl, rfl, rfl, rfl⟩, ⟨rfl, rfl, rfl, rfl⟩⟩)
     · have hcp := tcopy_ok es hT.vals
       have hTz := hT.put (n := [122, 122, 122]) (s := [103, 111, 110, 101]) ⟨by decide, by intro x hx; simp at hx; omega⟩ ⟨by decide, by intro x hx; simp at hx; omega⟩
       have hfz := hT.find (n := [122, 122, 122]) (by intro x hx; simp at hx; omega)
       have hp := tput_all es [122, 122, 122] [103, 111, 110, 101] (by decide) (by decide) (by omega) (by rw [hfz]; cases gtR L [122, 122, 122] with | none => exact .inl rfl | some x => exact .inr ⟨x, rfl⟩)
       rw [show okN [122, 122, 122] [103, 111, 110, 101] = true by decide, if_pos rfl, if_pos rfl] at hp
       have hfd := hTz.find hm1.2
       generalize setM es (strOfNums [122, 122, 122]) (.ints .u8 [103, 111, 110, 101]) = es2 at *
       cases hg : gtR (insP L [122, 122, 122] [103, 111, 110, 101]) n with
       | none =>
         rw [hg] at hfd
         have hd := tdrop_no es2 n hfd
         repeat (first | refine s_litC rfl rfl rfl (by rw [hn]; rfl) rfl rfl (by rw [hn]; rfl) (elt_mk Tryz.underlying29 rfl rfl) Tryz.underlying5 zok5 rfl (by exact vcs) rfl ⟨by decide, by decide, rfl⟩ ?_ | refine nxm ?_)
         refine N_sr (fun a w h => SR.mv 124 83 rfl rfl rfl rfl rfl (SR.mv 1124 1083 rfl rfl rfl rfl rfl h)) ?_
         exact N_joinF ⟨(es, L), hT, by dsimp only; omega⟩ (St.le_of ⟨⟨rfl, rfl, rfl, rfl⟩, ⟨rfl, rfl, rfl, rfl⟩⟩)
       | some x =>
         rw [hg] at hfd
         have hd := tdrop_ok es2 n x hfd
         repeat (first | refine s_litC rfl rfl rfl (by rw [hn]; rfl) rfl rfl (by rw [hn]; rfl) (elt_mk Tryz.underlying29 rfl rfl) Tryz.underlying5 zok5 rfl (by exact vcs) rfl ⟨by decide, by decide, rfl⟩ ?_ | refine nxm ?_)
         refine N_sr (fun a w h => SR.mv 124 83 rfl rfl rfl rfl rfl (SR.mv 1124 1083 rfl rfl rfl rfl rfl h)) ?_
         exact N_joinF ⟨(es, L), hT, by dsimp only; omega⟩ (St.le_of ⟨⟨rfl, rfl, rfl, rfl⟩, ⟨rfl, rfl, rfl, rfl⟩⟩)
   · obtain ⟨⟨es1, L1⟩, hT1, hL1⟩ := q
     dsimp only at hT1 hL1 ⊢
     have hnm := names_any es1 hT1.keys (by have := hT1.len; omega)
     have hrw : (L1.map fun p => strOfNums p.1).map bsR = L1.map nmL := by
       rw [List.map_map]
       exact List.map_congr_left fun p hp => by simp [bsR, bs_str (hT1.ok p hp).2.1]
     rw [hT1.names, hrw] at hnm
     have hln1 : ((L1.map nmL).length : Int) = (L1.length : Int) := by simp
     have hln2 : ((L1.map prL).length : Int) = (L1.length : Int) := by simp
     repeat (first | refine nxm ?_ | rw [hln1] | rw [hln2])
     refine W_weaken (St.le_of (l := [(0, .c (.lf (.recs 3 (l.map acL)))), (3, .c (.ptr 83 0)), (4, .c (.ptr 85 0)), (5, lv (.int .i64 (i : Int))), (17, .c (.lf (.recs 1 (L1.map nmL)))), (18, lv (.int .i64 ((0 : Nat) : Int)))]) (h := [(83, .cells [.map 1083]), (1083, .map es1), (85, .cells [.own 900 2 0 L1.length]), (900, rowP L1)]) (by refine ⟨?_, ?_⟩ <;> (repeat' (first | exact trivial | exact rfl | refine ⟨?_, ?_⟩)) <;> first | exact rfl | (simp; done) | skip)) ?_
     refine W_loop (ι := {k : Nat // k ≤ L1.length}) (fun k => St.of [(0, .c (.lf (.recs 3 (l.map acL)))), (3, .c (.ptr 83 0)), (4, .c (.ptr 85 0)), (5, lv (.int .i64 (i : Int))), (17, .c (.lf (.recs 1 (L1.map nmL)))), (18, lv (.int .i64 (k.1 : Int)))] [(83, .cells [.map 1083]), (1083, .map es1), (85, .cells [.own 900 2 0 L1.length]), (900, rowP L1)]) (fun k => L1.length - k.1) (fun k => ?_) ⟨0, Nat.zero_le _⟩
     obtain ⟨k, hk⟩ := k
     dsimp only
     repeat (first | refine nxm ?_ | rw [hln1])
     refine W_cond rfl (by simp) (fun hc => ?_) (fun hc => ?_)
     · have hk2 : k < L1.length := by simpa using hc
       obtain ⟨q, hq⟩ : ∃ q, L1[k] = q := ⟨_, rfl⟩
       have hqo := hT1.ok q (hq ▸ List.getElem_mem hk2)
       have hx3 : L1.getD (k : Int).toNat ([], []) = q := by
         rw [List.getD_eq_getElem?_getD, show (k : Int).toNat = k by omega, List.getElem?_eq_getElem hk2, hq]; rfl
       have hx4 : L1.getD (0 + (k : Int).toNat) ([], []) = q := by
         rw [Nat.zero_add]; exact hx3
       have hx5 : L1.getD (k : Int).toNat default = q := hx3
       have hsm := same_ok q.1 q.1 (by omega) (by omega)
       rw [decide_eq_true rfl] at hsm
       repeat (first | refine nxm ?_ | refine lp1 hn ?_ | refine dlf1 hn ?_ | rw [hx3] | rw [hx4] | rw [hx5])
       exact N_round ⟨k + 1, by omega⟩ (by dsimp only; omega) (St.le_of ⟨⟨rfl, rfl, rfl, rfl, rfl, rfl⟩, ⟨rfl, rfl, rfl, rfl⟩⟩)
     · repeat (first | refine nxm ?_)
       exact N_round ⟨(i + 1, es1, L1), by dsimp only; omega, by dsimp only; omega, hT1, hL1⟩ (by dsimp only; omega) (St.le_of ⟨⟨rfl, rfl, rfl, rfl⟩, ⟨rfl, rfl, rfl, rfl⟩⟩)
 · repeat refine nxm ?_
   refine rt2 [] (congrArg (fun x => lv (.bool x)) ?_) trivial; (simp [eqCs, Cell.kill, Cell.kill1])
end Go.Proofs.YtohfhephkjihfaaGreat

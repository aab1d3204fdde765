/-
  Structs of whatever fields that came in, as data. No condition.
-/
import Derived.Test.YthoaneleeabadaaGreatA37
import Derived.Test.YthoaneleeabadaaGreatSxZ
namespace Go.Proofs.YthoaneleeabadaaGreat
set_option linter.unusedSimpArgs false
set_option linter.unusedVariables false
open Go Go.Sx
set_option maxRecDepth 10000
theorem cell_nilR2 {E : Env} {σ : St} {a : Act} {w : World} (sz j i K : Nat) {cs cs' : List Cell} (hj : σ.hp j = .cells cs) (hi : cs[i]? = some (.lf (.v (.slice none 0 0)))) (hK : Nat.ble 64 K = true) (hne : Nat.beq j K = false) (hcs : ((cs.map (Cell.kill K)).set i (.own K sz 0 0)) = cs') (h : SR E σ a w) :
   SR E (((σ.kill K).seth K (.row (.recs sz []))).seth j (.cells cs')) a w := by
 subst hcs
 have hjK : j ≠ K := by intro e; subst e; simp at hne
 obtain ⟨β, F, h⟩ := h
 have hK64 : 64 ≤ K := by simpa using hK
 have hk := h.kill K (by have := h.nbl; omega)
 have hB := hk.hp j
 have hjk : (σ.kill K).hp j = .cells (cs.map (Cell.kill K)) := by simp [St.kill, hjK, hj, Blk.kill]
 rw [hjk] at hB
 obtain ⟨g, cur, e1, e2, e3, e4⟩ := hB
 have h2 : SRb E (fun i => if i = K then none else β i) F ((σ.kill K).seth K (.row (.recs sz []))) a w := by
   refine ⟨hk.tm, hk.sz, hk.df, fun i => ?_, fun i l g h1 h2 e1 e2 => ?_, fun i g h1 e => ?_, hk.lt, hk.fr, hk.keep, hk.bb, hk.nbl⟩
   · by_cases e : i = K
     · subst e
       simp only [St.seth, if_true]
       exact ⟨fun r hr => by simp at hr, .inl ⟨rfl, fun g hg => by simp at hg⟩⟩
     · simpa [St.seth, e] using hk.hp i
   · by_cases ek : i = K
     · subst ek; simp at e1
     · by_cases el : l = K
       · subst el; simp at e2
       · exact hk.inj i l g (by simpa [St.seth, ek] using h1) (by simpa [St.seth, el] using h2) e1 e2
   · by_cases ek : i = K
     · subst ek; simp at e
     · exact hk.own i g (by simpa [St.seth, ek] using h1) e
 refine ⟨_, F, h2.setBlk (j := j) (by simp [St.seth, hjK, hjk]) ⟨g, cur, e1, e2, by simpa using e3, fun m x v hx hv => ?_⟩⟩
 rw [List.getElem?_set] at hx
 split at hx
 · rename_i him
   subst him
   split at hx
   · simp only [Option.some.injEq] at hx
     subst hx
     have h5 : (cs.map (Cell.kill K))[i]? = some (.lf (.v (.slice none 0 0))) := by rw [List.getElem?_map, hi]; rfl
     have := e4 i _ v h5 hv
     cases this with | lf h => cases h with | v _ _ => exact .own _ _ _ _ _ _ (Nat.le_refl _) (by decide) (.inl rfl)
   · cases hx
 · exact e4 m x v hx hv
theorem okN_iff {n s : List Int} : okN n s = true ↔ 1 ≤ n.length ∧ n.length ≤ 64 ∧ 1 ≤ s.length ∧ s.length ≤ 256 := by
 unfold okN
 simp only [Bool.and_eq_true, decide_eq_true_eq]
theorem tput_upd (es : MapL) (n s x : List Int) (hn1 : 1 ≤ n.length ∧ n.length ≤ 64) (hs : 1 ≤ s.length ∧ s.length ≤ 256) (he : es.length < 10000) (hf : findM es (strOfNums n) = some (.ints .u8 x)) :
   Ct Tryz.prog 64 [.c (.ptr 0 0), B8 n, B8 s] [tabB, .map es] (lv (.int .i64 0)) [tabB, .map (setM es (strOfNums n) (.ints .u8 s))] [] := by
 have hcl := clone_ok s (by omega)
 refine Ct_intro Tryz.func64 rfl rfl rfl rfl rfl (fun E hn hb => ?_)
 repeat refine nxm ?_
 exact rt1 []
theorem tput_err (es : MapL) (n s : List Int) (hb2 : ¬ (1 ≤ n.length ∧ n.length ≤ 64 ∧ 1 ≤ s.length ∧ s.length ≤ 256)) (hn1 : n.length ≤ 1000000) (hs1 : s.length ≤ 1000000) :
   Ct Tryz.prog 64 [.c (.ptr 0 0), B8 n, B8 s] [tabB, .map es] (lv (.int .i64 1)) [tabB, .map es] [] := by
 refine Ct_intro Tryz.func64 rfl rfl rfl rfl rfl (fun E hn hb => ?_)
 by_cases h1 : n.length < 1
 · repeat refine nxm ?_
   exact rt1 []
 · by_cases h2 : 64 < n.length
   · repeat refine nxm ?_
     exact rt1 []
   · by_cases h3 : s.length < 1
     · repeat refine nxm ?_
       exact rt1 []
     · have h4 : 256 < s.length := by omega
       repeat refine nxm ?_
       exact rt1 []
theorem tput_all (es : MapL) (n s : List Int) (hn1 : n.length ≤ 1000000) (hs1 : s.length ≤ 1000000) (he : es.length < 10000) (hx : findM es (strOfNums n) = none ∨ ∃ x, findM es (strOfNums n) = some (.ints .u8 x)) :
   Ct Tryz.prog 64 [.c (.ptr 0 0), B8 n, B8 s] [tabB, .map es] (lv (.int .i64 (if okN n s = true then 0 else 1))) [tabB, .map (if okN n s = true then setM es (strOfNums n) (.ints .u8 s) else es)] [] := by
 by_cases h : okN n s = true
 · rw [if_pos h, if_pos h]
   obtain ⟨a, b, c, d⟩ := okN_iff.1 h
   rcases hx with hf | ⟨x, hf⟩
   · exact tput_ok es n s ⟨a, b⟩ ⟨c, d⟩ he hf
   · exact tput_upd es n s x ⟨a, b⟩ ⟨c, d⟩ he hf
 · rw [if_neg h, if_neg h]
   exact tput_err es n s (fun e => h (okN_iff.2 e)) hn1 hs1
set_option maxHeartbeats 16000000 in
theorem tables_ok (l : List PairT) (hl : l.length ≤ 9223372036854775807) (hw : ∀ p ∈ l, (p.1.length ≤ 9223372036854775807 ∧ WfB p.1) ∧ (p.2.length ≤ 9223372036854775807 ∧ WfB p.2)) :
   Ct Tryz.prog 33 [.c (.lf (.recs 2 (l.map prL)))] [] (.tup [.c (.ptr 0 0), .c (.ptr 2 0)]) [] [tabB, .map (tabsT l).1, .cells [.own 3 2 0 (tabsT l).2.length], rowP (tabsT l).2] := by
 have htn := tnew_ok
 refine Ct_intro Tryz.func33 rfl rfl rfl rfl rfl (fun E hn hb => ?_)
 repeat refine nxm ?_
 refine W_sr (fun a w h => cell_nilR2 2 75 0 900 rfl rfl rfl rfl rfl h) ?_
 refine W_weaken (St.le_of (l := [(0, .c (.lf (.recs 2 (l.map prL)))), (4, .c (.ptr 73 0)), (5, .c (.ptr 75 0)), (6, lv (.int .i64 ((0 : Nat) : Int)))]) (h := [(73, .cells [.map 1073]), (75, .cells [.own 900 2 0 0]), (900, .row (.recs 2 [])), (1073, .map [])]) (by refine ⟨?_, ?_⟩ <;> (repeat' (first | exact trivial | exact rfl | refine ⟨?_, ?_⟩)) <;> first | exact rfl | (simp; done) | skip)) ?_
 refine W_loop (ι := {i : Nat // i ≤ l.length ∧ i ≤ 20 ∧ goodT i ((l.take i).foldl stepT2 ([], []))}) (fun i => St.of [(0, .c (.lf (.recs 2 (l.map prL)))), (4, .c (.ptr 73 0)), (5, .c (.ptr 75 0)), (6, lv (.int .i64 (i.1 : Int)))] [(73, .cells [.map 1073]), (75, .cells [.own 900 2 0 ((l.take i.1).foldl stepT2 ([], [])).2.length]), (900, rowP ((l.take i.1).foldl stepT2 ([], [])).2), (1073, .map ((l.take i.1).foldl stepT2 ([], [])).1)]) (fun i => 20 - i.1) (fun i => ?_) ⟨0, by omega, by omega, good_nil⟩
 obtain ⟨i, hi, hi20, hgd⟩ := i
 dsimp only
 by_cases hi2 : i < l.length ∧ i < 20
 · have hm : l.getD i ([], []) ∈ l := by
     rw [List.getD_eq_getElem?_getD, List.getElem?_eq_getElem hi2.1]
     exact List.getElem_mem hi2.1
   have hnx := tabs_next l i hi2.1
   have hg2 : goodT (i + 1) ((l.take (i + 1)).foldl stepT2 ([], [])) := by
     rw [hnx]
     exact good_step hgd (hw _ hm).1.2 (hw _ hm).2.2
   have hq : l.getD (i : Int).toNat default = l.getD i ([], []) := rfl
   have hlen := hw _ hm
   generalize (l.take i).foldl stepT2 ([], []) = S at *
   generalize l.getD i ([], []) = p at *
   repeat (first | refine nxm ?_ | rw [hq])
   obtain ⟨al, rt, le1, le2⟩ := hgd
   have e1 : p.1.take (min (p.1.length : Int) 100).toNat = (cutN p).1 := rfl
   have e2 : p.2.take (min (p.2.length : Int) 300).toNat = (cutN p).2 := rfl
   have c1 : (cutN p).1.length ≤ 100 := by rw [← e1]; simp; omega
   have c2 : (cutN p).2.length ≤ 300 := by rw [← e2]; simp; omega
   have w1 : WfB (cutN p).1 := fun y hy => hlen.1.2 y (List.mem_of_mem_take hy)
   have hst : stepT2 S p = if okN (cutN p).1 (cutN p).2 = true then (setM S.1 (strOfNums (cutN p).1) (.ints .u8 (cutN p).2), insP S.2 (cutN p).1 (cutN p).2) else S := rfl
   rw [hst] at hnx
   clear hst
   rw [e1, e2]
   generalize (cutN p).1 = n at *
   generalize (cutN p).2 = s at *
   have hal := al n w1
   have hpn := pl_none S.2 n
   have ht := tput_all S.1 n s (by omega) (by omega) (by omega) (by rw [hal]; cases gtR S.2 n with | none => exact .inl rfl | some x => exact .inr ⟨x, rfl⟩)
   have hls : ∀ q ∈ S.2, q.1.length ≤ 1000000 := fun q hq => by have := (rt q hq).1; omega
   by_cases ho : okN n s = true
   · rw [if_pos ho] at hnx
     rw [if_pos ho, if_pos ho] at ht
     obtain ⟨o1, o2, o3, o4⟩ := okN_iff.1 ho
     cases hf : (plP S.2 n).2 with
     | false =>
       have hr := rput_new S.2 n s (by omega) hls ⟨o1, o2⟩ ⟨o3, o4⟩ hf
       rw [ins_new S.2 n s hf] at hr
       have hr' := fun _ : Unit => hr
       clear hr
       repeat refine nxm ?_
       have hr := hr' ()
       refine frcL 900 75 ?_
       repeat refine nxm ?_
       refine N_sr (fun a w h => SR.mv 119 900 rfl rfl rfl rfl rfl h) ?_
       refine N_round ⟨i + 1, by omega, by omega, hg2⟩ (by dsimp only; omega) (St.le_of ⟨⟨rfl, rfl, rfl, rfl⟩, ⟨rfl, ?_, ?_, ?_⟩⟩)
       · dsimp only; rw [hnx]; rfl
       · dsimp only; rw [hnx]; rfl
       · dsimp only; rw [hnx]; rfl
     | true =>
       have hr := rput_upd S.2 n s (by omega) hls ⟨o1, o2⟩ ⟨o3, o4⟩ hf
       have hl2 : (insP S.2 n s).length = S.2.length := by rw [← ins_upd S.2 n s hf, List.length_set]
       rw [ins_upd S.2 n s hf] at hr
       repeat refine nxm ?_
       refine N_round ⟨i + 1, by omega, by omega, hg2⟩ (by dsimp only; omega) (St.le_of ⟨⟨rfl, rfl, rfl, rfl⟩, ⟨rfl, ?_, ?_, ?_⟩⟩)
       · dsimp only; rw [hnx]; exact congrArg (fun k => Blk.cells [.own 900 2 0 k]) hl2.symm
       · dsimp only; rw [hnx]; rfl
       · dsimp only; rw [hnx]; rfl
   · rw [if_neg ho] at hnx
     rw [if_neg ho, if_neg ho] at ht
     have hr := rput_err S.2 n s (fun e => ho (okN_iff.2 e)) (by omega) (by omega)
     repeat refine nxm ?_
     refine N_round ⟨i + 1, by omega, by omega, hg2⟩ (by dsimp only; omega) (St.le_of ⟨⟨rfl, rfl, rfl, rfl⟩, ⟨rfl, ?_, ?_, ?_⟩⟩)
     · dsimp only; rw [hnx]; rfl
     · dsimp only; rw [hnx]; rfl
     · dsimp only; rw [hnx]; rfl
 · have e : (l.take i).foldl stepT2 ([], []) = tabsT l := by
     unfold tabsT
     by_cases h : i = 20
     · rw [h]
     · rw [List.take_of_length_le (show l.length ≤ i by omega), List.take_of_length_le (show l.length ≤ 20 by omega)]
   rw [e]
   repeat refine nxm ?_
   exact rt1 [73, 1073, 75, 900]

set_option maxRecDepth 10000
theorem rsmake_arg (L : List PairT) (n x : List Int) (hx : x.length ≤ 100000) (hxw : WfB x) (hs : sglB x = false) :
   Ct Tryz.prog 35 [.c (.ptr 0 0), B8 n, B8 x] [rtB L, rowP L] (.tup [sealA [] [] [] [], lv (.int .i64 1)]) [rtB L, rowP L] [] := by
 have h1 := rsingle_ok x hx hxw
 rw [hs] at h1
 refine Ct_intro Tryz.func35 rfl rfl rfl rfl rfl (fun E hn hb => ?_)
 repeat refine nx ?_
 refine rtU [] (hu := ?_)
 exact ⟨⟨.inr ⟨rfl, .inl ⟨_, rfl⟩⟩, .inr ⟨rfl, .inl ⟨_, rfl⟩⟩, .inr ⟨rfl, .inl ⟨_, rfl⟩⟩, .inr ⟨rfl, .inl ⟨_, rfl⟩⟩, trivial⟩, .inl rfl, trivial⟩
theorem rsmake_none (L : List PairT) (n x : List Int) (hL : L.length ≤ 100000) (hls : ∀ p ∈ L, p.1.length ≤ 1000000) (hn1 : n.length ≤ 1000000) (hx : x.length ≤ 100000) (hxw : WfB x) (hf : gtP L n = none) (hs : sglB x = true) :
   Ct Tryz.prog 35 [.c (.ptr 0 0), B8 n, B8 x] [rtB L, rowP L] (.tup [sealA [] [] [] [], lv (.int .i64 14)]) [rtB L, rowP L] [] := by
 have h1 := rsingle_ok x hx hxw
 rw [hs] at h1
 have h2 := rget_no L n hL hls hn1 hf
 refine Ct_intro Tryz.func35 rfl rfl rfl rfl rfl (fun E hn hb => ?_)
 repeat refine nx ?_
 refine rtU [] (hu := ?_)
 exact ⟨⟨.inr ⟨rfl, .inl ⟨_, rfl⟩⟩, .inr ⟨rfl, .inl ⟨_, rfl⟩⟩, .inr ⟨rfl, .inl ⟨_, rfl⟩⟩, .inr ⟨rfl, .inl ⟨_, rfl⟩⟩, trivial⟩, .inl rfl, trivial⟩
set_option maxHeartbeats 4000000 in
theorem rsmake_ok (L : List PairT) (n k x : List Int) (hL : L.length ≤ 100000) (hls : ∀ p ∈ L, p.1.length ≤ 1000000) (hn1 : n.length ≤ 1000000) (hk : k.length ≤ 256) (hkw : WfB k) (hx : x.length ≤ 100000) (hxw : WfB x) (hf : gtP L n = some k) (hs : sglB x = true) :
   Ct Tryz.prog 35 [.c (.ptr 0 0), B8 n, B8 x] [rtB L, rowP L] (.tup [sealA x hmO [5, 0] (tagS k x), lv (.int .i64 0)]) [rtB L, rowP L] [] := by
 have h1 := rsingle_ok x hx hxw
 rw [hs] at h1
 have h2 := rget_ok L n k hL hls hn1 hf
 have h3 := reftag_ok k x hkw (by omega) hxw (by omega)
 have h5 := rhmac_ok
 have hdl : (tagS k x).length = 32 := digS_len _
 have hdw : WfB (tagS k x) := digS_wf _
 generalize tagS k x = D at *
 have hdn := ne32 hdl
 refine Ct_intro Tryz.func35 rfl rfl rfl rfl rfl (fun E hn hb => ?_)
 refine nx ?_
 refine nx ?_
 refine nx ?_
 refine nx ?_
 repeat (first | refine s_allocAN .u8 32 rfl rfl rfl (by rw [hn]; rfl) (by kernel_rfl) ?_ | refine nx ?_)
 refine s_storeA rfl rfl rfl rfl rfl (by exact vcs) rfl (by rw [cellsOf46]; first | rfl | assumption | omega | kernel_rfl | (simp; done) | (simp; omega) | (simp at *; omega)) (by first | rfl | assumption | omega | kernel_rfl | (simp; done) | (simp; omega) | (simp at *; omega)) (by first | assumption | (simp; done) | exact List.cons_ne_nil _ _) ?_
 repeat refine nx ?_
 refine dup1 (hp := ?_) ?_
 rotate_left
 · exact ⟨rfl, by omega, hdn, show 32 ≤ maxLen from by decide⟩
 repeat refine nx ?_
 refine frcN3 74 70 ?_ (hp := ?_)
 rotate_left
 · exact hdl.symm
 exact rt1 []
theorem scheck_alg (es : MapL) (n t o m s : List Int) (ho : o.length ≤ 1000000) (hm : m.length ≤ 100000) (hw : WfB m)
   (ha : rightG o m = true) (he : ¬ (wrG o m).1 = (wrG hmO [5, 0]).1) :
   Ct Tryz.prog 39 [.c (.ptr 0 0), B8 n, sealA t o m s] [tabB, .map es] (lv (.int .i64 13)) [tabB, .map es] [] := by
 have h1 := hmac_ok
 have h2 := samealg_ok o m hmO [5, 0] ho hm hw (by decide) (by decide) (wf18 (by decide +kernel)) ha ex_r2
 rw [decide_eq_false he] at h2
 refine Ct_intro Tryz.func39 rfl rfl rfl rfl rfl (fun E hn hb => ?_)
 repeat refine nxm ?_
 exact rt1 []
theorem tget_nil (n : List Int) : Ct Tryz.prog 65 [.c (.lf (.v (.pointer none))), B8 n] [] (.tup [B8 [], lv (.int .i64 17)]) [] [] := by
 refine Ct_intro Tryz.func65 rfl rfl rfl rfl rfl (fun E hn hb => ?_)
 repeat refine nxm ?_
 exact rtU []
theorem scheck_nil (n t o m s : List Int) (ho : o.length ≤ 1000000) (hm : m.length ≤ 100000) (hw : WfB m)
   (ha : rightG o m = true) (he : (wrG o m).1 = (wrG hmO [5, 0]).1) :
   Ct Tryz.prog 39 [.c (.lf (.v (.pointer none))), B8 n, sealA t o m s] [] (lv (.int .i64 17)) [] [] := by
 have h1 := hmac_ok
 have h2 := samealg_ok o m hmO [5, 0] ho hm hw (by decide) (by decide) (wf18 (by decide +kernel)) ha ex_r2
 rw [decide_eq_true he] at h2
 have h3 := tget_nil n
 refine Ct_intro Tryz.func39 rfl rfl rfl rfl rfl (fun E hn hb => ?_)
 repeat refine nxm ?_
 exact rt1 []
theorem gt_name {n s : List Int} : ∀ {L : List PairT}, gtR L n = some s → ∃ r ∈ L, r.1 = n ∧ r.2 = s
 | [], h => by simp [gtR] at h
 | p :: L, h => by
   unfold gtR at h
   split at h
   · obtain ⟨r, h1, h2⟩ := gt_name h
     exact ⟨r, List.mem_cons_of_mem _ h1, h2⟩
   · split at h
     · rename_i h2
       exact ⟨p, List.mem_cons_self .., (cmpL_eq _ _).1 h2, Option.some.inj h⟩
     · simp at h
theorem good_fold : ∀ (l : List PairT) (k : Nat) (S : MapL × List PairT), goodT k S → (∀ p ∈ l, WfB p.1 ∧ WfB p.2) → goodT (k + l.length) (l.foldl stepT2 S)
 | [], k, S, h, _ => h
 | p :: l, k, S, h, hw => by
   have := good_fold l (k + 1) (stepT2 S p) (good_step h (hw p (List.mem_cons_self ..)).1 (hw p (List.mem_cons_self ..)).2) (fun q hq => hw q (List.mem_cons_of_mem _ hq))
   rw [List.length_cons, show k + (l.length + 1) = k + 1 + l.length by omega]
   exact this
theorem good_tabs (l : List PairT) (hw : ∀ p ∈ l, WfB p.1 ∧ WfB p.2) : alikeT (tabsT l).1 (tabsT l).2 ∧ rightT2 (tabsT l).2 ∧ (tabsT l).1.length ≤ 20 ∧ (tabsT l).2.length ≤ 20 := by
 have h := good_fold (l.take 20) 0 ([], []) good_nil (fun p hp => hw p (List.mem_of_mem_take hp))
 have hl : (l.take 20).length ≤ 20 := by simp; omega
 unfold tabsT
 exact ⟨h.1, h.2.1, by have := h.2.2.1; omega, by have := h.2.2.2; omega⟩
end Go.Proofs.YthoaneleeabadaaGreat

namespace Go.Proofs.YthoaneleeabadaaGreat
set_option linter.unusedSimpArgs false
set_option linter.unusedVariables false
open Go Go.Sx
set_option maxRecDepth 10000
abbrev shO : List Int := [2, 16, 840, 1, 101, 3, 4, 2, 1]
set_option maxHeartbeats 32000000 in
theorem makes19_ok (l : List PairT) (n0 x0 : List Int) (hl : l.length ≤ 9223372036854775807) (hn0 : n0.length ≤ 9223372036854775807) (hx0 : x0.length ≤ 9223372036854775807) (hw : ∀ p ∈ l, (p.1.length ≤ 9223372036854775807 ∧ WfB p.1) ∧ (p.2.length ≤ 9223372036854775807 ∧ WfB p.2)) (hwn0 : WfB n0) (hwx0 : WfB x0) :
   Ct Tryz.prog 4 [.c (.lf (.recs 2 (l.map prL))), B8 n0, B8 x0] [] (lv (.bool true)) [] [] := by
 have hkn := known19_ok
 have htb := tables_ok l hl hw
 obtain ⟨al, rt, le1, le2⟩ := good_tabs l (fun p hp => ⟨(hw p hp).1.2, (hw p hp).2.2⟩)
 generalize tabsT l = T at *
 obtain ⟨es, L⟩ := T
 dsimp only at *
 have hls : ∀ q ∈ L, q.1.length ≤ 1000000 := fun q hq => by have := (rt q hq).1; omega
 have hnl : (n0.take (min (n0.length : Int) 100).toNat).length ≤ 100 := by simp; omega
 have hx : (x0.take (min (x0.length : Int) 500).toNat).length ≤ 500 := by simp; omega
 have hwn : WfB (n0.take (min (n0.length : Int) 100).toNat) := wfl_take hwn0 _
 have hwx : WfB (x0.take (min (x0.length : Int) 500).toNat) := wfl_take hwx0 _
 have hlk := al _ hwn
 have hgt := gtP_R L (n0.take (min (n0.length : Int) 100).toNat)
 cases hs : sglB (x0.take (min (x0.length : Int) 500).toNat) with
 | false =>
   have m1 := smake_arg es (n0.take (min (n0.length : Int) 100).toNat) _ (by omega) hwx hs
   have m2 := rsmake_arg L (n0.take (min (n0.length : Int) 100).toNat) _ (by omega) hwx hs
   have f1 := sof_ok [] [] [] []
   have f2 := slike_ok [] [] [] [] (by simp) (by simp) (by simp) (by simp)
   refine Ct_intro Tryz.func4 rfl rfl rfl rfl rfl (fun E hn hb => ?_)
   repeat refine nxm ?_
   refine rt2 [] (congrArg (fun x => lv (.bool x)) ?_) trivial; (simp [eqCs, Cell.kill, Cell.kill1])
 | true =>
   cases hg : gtR L (n0.take (min (n0.length : Int) 100).toNat) with
   | none =>
     rw [hg] at hlk hgt
     have m1 := smake_none es _ _ (by omega) (by omega) hwx hlk hs
     have m2 := rsmake_none L _ _ (by omega) hls (by omega) (by omega) hwx hgt hs
     have f1 := sof_ok [] [] [] []
     have f2 := slike_ok [] [] [] [] (by simp) (by simp) (by simp) (by simp)
     refine Ct_intro Tryz.func4 rfl rfl rfl rfl rfl (fun E hn hb => ?_)
     repeat refine nxm ?_
     refine rt2 [] (congrArg (fun x => lv (.bool x)) ?_) trivial; (simp [eqCs, Cell.kill, Cell.kill1])
   | some k =>
     rw [hg] at hlk hgt
     obtain ⟨r, hr, hr1, hr2⟩ := gt_name hg
     obtain ⟨b1, b2, b3⟩ := rt r hr
     rw [hr1] at b1
     rw [hr2] at b2 b3
     refine Ct_intro Tryz.func4 rfl rfl rfl rfl rfl (fun E hn hb => ?_)
     repeat refine nxm ?_
     generalize n0.take (min (n0.length : Int) 100).toNat = n at *
     generalize x0.take (min (x0.length : Int) 500).toNat = x at *
     have m1 := smake_ok es n k x b1 b2 b3 (by omega) hwx hlk hs
     have m2 := rsmake_ok L n k x (by omega) hls (by omega) b2 b3 (by omega) hwx hgt hs
     have hdl : (tagS k x).length = 32 := digS_len _
     have hdw : WfB (tagS k x) := digS_wf _
     have hw5 : WfB [5, 0] := wf18 (by decide +kernel)
     have c1 := scheck_ok es n k x hmO [5, 0] (tagS k x) b1 b2 b3 (by omega) hwx (by decide) (by decide) hw5 (by omega) hdw hlk ex19_g rfl
     unfold chkZ at c1
     rw [if_pos rfl] at c1
     have c2 := scheck_alg es n x shO [5, 0] (tagS k x) (by decide) (by decide) hw5 ex_r1 ex_ne
     have c3 := scheck_nil n x hmO [5, 0] (tagS k x) (by decide) (by decide) hw5 ex19_g rfl
     have f1 := sof_ok x hmO [5, 0] (tagS k x)
     have f2 := slike_ok x hmO [5, 0] (tagS k x) (by omega) (by decide) (by decide) (by omega)
     have j1 := sha256_ok
     generalize tagS k x = D at *
     repeat (first | refine nxm ?_ | (refine WL_gT rfl rfl ?_; refine nxm ?_))
     refine rt2 [] (congrArg (fun x => lv (.bool x)) ?_) trivial; (simp [eqCs, Cell.kill, Cell.kill1])
end Go.Proofs.YthoaneleeabadaaGreat

namespace Go.Sx
open Go
open Go.ChangeShapes Go.WideShapes Go.ChangeAt Go.RowKit Go.Joins Go.Deep
set_option linter.unusedVariables false
section
variable {H : Type} {enc : TypeId × Value → H} {P : Program} {w : World} {base : Nat} {spare : Nat → Bool} {held : Bool} {fuel : Nat}
def LeavesR (w : World) (cs : List Value) (ls : List Leaf) : Prop := cs.length = ls.length ∧ ∀ (j : Nat) (z : Leaf), ls[j]? = some z → ∃ u, cs[j]? = some u ∧ LfR (Was w) w z u
theorem open_recs {α : Type} {t e : TypeId} {sz : Nat} {f : α → List Leaf} {Φ : α → Prop} {v : Value} {x : DataW H × List MemPlace} (ht : P.underlying t = some (.slice e)) (hc : P.cellsOf e = sz) (hsz : sz ≠ 0)
   (hel : ∀ n cs y, cs.length = sz → DataW.trod enc P w base spare held n e cs = some y → ∃ a, Φ a ∧ (f a).length = sz ∧ LeavesR w cs (f a)) (h : DataW.trod enc P w base spare held fuel t [v] = some x) :
   ∃ l : List α, l.length ≤ 9223372036854775807 ∧ (∀ a ∈ l, Φ a) ∧ LfR (Was w) w (.recs sz (l.map f)) v := by
 rcases DataW.trod_slice ht h with ⟨hcs, _⟩ | ⟨a, len, cap, elems, rest, n, _, hcs, _, hb, hl, hm, hlen, hel2, hsp, hns⟩
 · simp at hcs
   subst hcs
   exact ⟨[], by simp, fun a h => (by cases h), LfR.recs _ _ _ _ _ (fun _ _ => undef) rfl (Nat.le_refl _) (Nat.zero_le _) (fun r h => by cases h) (fun h => absurd rfl h) (fun i r j x h => by simp at h)⟩
 · simp at hcs
   subst hcs
   have each : ∀ i : _root_.Fin len, ∃ a' : α, Φ a' ∧ (f a').length = sz ∧ ∀ (j : Nat) (z : Leaf), (f a')[j]? = some z → ∃ u, w.cell? ((a.add (i.val * sz)).add j) = some u ∧ LfR (Was w) w z u := by
     intro i
     have h1 := hel2 i.val i.isLt
     rw [hc] at h1
     have h2 : elems[i.val]? = some elems[i.val] := by simp [hlen]
     rw [h2] at h1
     obtain ⟨cs, e1, e2⟩ := Option.bind_eq_some_iff.1 h1
     obtain ⟨q1, q2, q3⟩ := World.cells?_some e1
     obtain ⟨a', p1, p2, p3, p4⟩ := hel n cs _ q2 e2
     refine ⟨a', p1, p2, fun j z hz => ?_⟩
     obtain ⟨u, u1, u2⟩ := p4 j z hz
     have hj : j < sz := by
       have := (List.getElem?_eq_some_iff.1 hz).1
       omega
     refine ⟨u, ?_, u2⟩
     rw [q3 j hj]
     exact u1
   obtain ⟨g, hg⟩ := Classical.axiomOfChoice each
   have hm' : cap ≤ 9223372036854775807 := hm
   refine ⟨List.ofFn g, by simp; omega, fun a' ha => ?_, ?_⟩
   · obtain ⟨i, rfl⟩ := (List.mem_ofFn).1 ha
     exact (hg i).1
   · have hget : ∀ (i : Nat) (r : List Leaf), ((List.ofFn g).map f)[i]? = some r → ∃ hi : i < len, r = f (g ⟨i, hi⟩) := by
       intro i r hr
       rw [List.getElem?_map, Option.map_eq_some_iff] at hr
       obtain ⟨q, hq, rfl⟩ := hr
       rw [List.getElem?_ofFn] at hq
       split at hq
       · rename_i hi
         exact ⟨hi, by rw [← Option.some.inj hq]⟩
       · cases hq
     obtain ⟨b, o, sp⟩ := a
     have hone : 0 < len → sp = none ∧ b < w.heap.size := by
       intro h0
       obtain ⟨_, p2, p3⟩ := hg ⟨0, h0⟩
       obtain ⟨z, hz⟩ : ∃ z, (f (g ⟨0, h0⟩))[0]? = some z := ⟨(f (g ⟨0, h0⟩))[0]'(by omega), by simp⟩
       obtain ⟨u, u1, _⟩ := p3 0 z hz
       have := cell_in u1
       simp [Addr.add] at this
       exact ⟨this.2, this.1⟩
     refine LfR.recs _ _ _ _ _ (fun i j => (w.cell? ⟨b, o + i * sz + j, none⟩).getD undef) (by simp) hl hm (fun r hr => ?_) (fun hne => ?_) (fun i r j x hi hj => ?_)
     · obtain ⟨a', ha, rfl⟩ := List.mem_map.1 hr
       obtain ⟨i, rfl⟩ := (List.mem_ofFn).1 ha
       exact (hg i).2.1
     · have h0 : 0 < len := by
         rcases Nat.eq_zero_or_pos len with h | h
         · subst h; simp at hne
         · exact h
       obtain ⟨rfl, hb1⟩ := hone h0
       refine ⟨b, o, rfl, hb1, fun i r j x hi hj => ?_⟩
       obtain ⟨hi', rfl⟩ := hget i r hi
       obtain ⟨u, u1, _⟩ := (hg ⟨i, hi'⟩).2.2 j x hj
       rw [add_none, add_none] at u1
       rw [u1]; rfl
     · obtain ⟨hi', rfl⟩ := hget i r hi
       obtain ⟨rfl, hb1⟩ := hone (by omega)
       obtain ⟨u, u1, u2⟩ := (hg ⟨i, hi'⟩).2.2 j x hj
       rw [add_none, add_none] at u1
       rw [u1]; exact u2
theorem cell_bytes {ty e : TypeId} (ht : P.underlying ty = some (.slice e)) (he : P.underlying e = some (.int .u8)) (hc : P.cellsOf e = 1) : ∀ n c y, DataW.trod enc P w base spare held n ty [c] = some y → ∃ x : List Int, (x.length ≤ 9223372036854775807 ∧ ∀ n ∈ x, 0 ≤ n ∧ n < 256) ∧ LfR (Was w) w (.ints .u8 x) c := by
 intro n c y h
 obtain ⟨l, h1, h2, h3⟩ := open_row ht he hc h
 exact ⟨l, ⟨h1, fun n hn => wf_u8 (h2 n hn)⟩, h3⟩
end

section
variable {H : Type} {enc : TypeId × Value → H} {P : Program} {w : World} {base : Nat} {spare : Nat → Bool} {held : Bool}
def ReadsAs (enc : TypeId × Value → H) (P : Program) (w : World) (base : Nat) (spare : Nat → Bool) (held : Bool) {A : Type} (t : TypeId) (k : Nat) (f : A → List Leaf) (Φ : A → Prop) : Prop :=
 ∀ n cs y, cs.length = k → DataW.trod enc P w base spare held n t cs = some y → ∃ a, Φ a ∧ (f a).length = k ∧ LeavesR w cs (f a)
theorem reads_one {A : Type} {t : TypeId} {g : A → Leaf} {Φ : A → Prop} (h : ∀ n c y, DataW.trod enc P w base spare held n t [c] = some y → ∃ x, Φ x ∧ LfR (Was w) w (g x) c) : ReadsAs enc P w base spare held t 1 (fun x => [g x]) Φ := by
 intro n cs y hcs hy
 match cs, hcs with
 | [c], _ =>
   obtain ⟨x, h1, h2⟩ := h n c y hy
   refine ⟨x, h1, rfl, rfl, fun j z hz => ?_⟩
   cases j with
   | zero => simp at hz; subst hz; exact ⟨c, rfl, h2⟩
   | succ j => simp at hz
theorem leaves_app {cs : List Value} {k0 k1 : Nat} {l0 l1 : List Leaf} (hk : cs.length = k0 + k1) (h0 : LeavesR w (cs.take k0) l0) (h1 : LeavesR w ((cs.drop k0).take k1) l1) : LeavesR w cs (l0 ++ l1) := by
 have e0 : l0.length = k0 := by rw [← h0.1]; simp; omega
 have e1 : l1.length = k1 := by rw [← h1.1]; simp; omega
 refine ⟨by simp; omega, fun j z hz => ?_⟩
 rcases Nat.lt_or_ge j k0 with h | h
 · rw [List.getElem?_append_left (by omega)] at hz
   obtain ⟨u, a, b⟩ := h0.2 j z hz
   rw [List.getElem?_take_of_lt h] at a
   exact ⟨u, a, b⟩
 · rw [List.getElem?_append_right (by omega), e0] at hz
   obtain ⟨u, a, b⟩ := h1.2 (j - k0) z hz
   have hj : j - k0 < k1 := by
     have := (List.getElem?_eq_some_iff.1 hz).1
     omega
   rw [List.getElem?_take_of_lt hj, List.getElem?_drop, show k0 + (j - k0) = j by omega] at a
   exact ⟨u, a, b⟩
theorem reads_two {A B : Type} {t : TypeId} {f0 f1 : Field} {k0 k1 : Nat} {g0 : A → List Leaf} {g1 : B → List Leaf} {Φ0 : A → Prop} {Φ1 : B → Prop} (ht : P.underlying t = some (.struct #[f0, f1])) (ho : f0.offset = 0 ∧ f1.offset = k0) (hc0 : P.cellsOf f0.type = k0) (hc1 : P.cellsOf f1.type = k1)
   (h0 : ReadsAs enc P w base spare held f0.type k0 g0 Φ0) (h1 : ReadsAs enc P w base spare held f1.type k1 g1 Φ1) : ReadsAs enc P w base spare held t (k0 + k1) (fun x : A × B => g0 x.1 ++ g1 x.2) (fun x => Φ0 x.1 ∧ Φ1 x.2) := by
 intro n cs y hcs hy
 obtain ⟨y0, y1, m, _, _, z0, z1⟩ := trod_struct2 ht hy
 rw [ho.1, hc0, List.drop_zero] at z0
 rw [ho.2, hc1] at z1
 obtain ⟨a, a1, a2, a3⟩ := h0 m _ _ (by simp; omega) z0
 obtain ⟨b, b1, b2, b3⟩ := h1 m _ _ (by simp; omega) z1
 exact ⟨(a, b), ⟨a1, b1⟩, by simp [a2, b2], leaves_app hcs a3 b3⟩
theorem open_rowsS {A : Type} {t e : TypeId} {k : Nat} {f : A → List Leaf} {Φ : A → Prop} {v : Value} {d : DataW H} {p : List MemPlace} {r : Reach} {b0 : Nat} (ht : P.underlying t = some (.slice e)) (hc : P.cellsOf e = k) (hk : Nat.beq k 0 = false) (hR : ReadsAs enc P w base spare held e k f Φ)
   (hv : Value.okWide P w r b0 t v) (h : DataW.Trod enc P w base spare held t v d p) : ∃ l : List A, l.length ≤ 9223372036854775807 ∧ (∀ a ∈ l, Φ a) ∧ ∀ β, AvR β (Was w) w (.c (.lf (.recs k (l.map f)))) v := by
 obtain ⟨a, n, c, rfl⟩ := okWide_slice ht hv
 obtain ⟨fuel, h⟩ := h
 simp only [Value.cells] at h
 obtain ⟨l, h1, h2, h3⟩ := open_recs (f := f) (Φ := Φ) ht hc (by rintro rfl; simp at hk) (fun n cs y hcs hy => hR n cs y hcs hy) h
 exact ⟨l, h1, h2, fun β => .c (.lf h3)⟩
end
end Go.Sx

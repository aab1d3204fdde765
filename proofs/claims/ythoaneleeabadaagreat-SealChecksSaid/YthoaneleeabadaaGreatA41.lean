/-
  Calls that borrow blocks of one's own and give them back as they were, in regions of open order. No condition.
-/
import Derived.Test.YthoaneleeabadaaGreatA37
namespace Go.Proofs.YthoaneleeabadaaGreat
set_option linter.unusedSimpArgs false
set_option linter.unusedVariables false
open Go Go.Sx
set_option maxRecDepth 10000
theorem cell_nilR2 {E : Env} {σ : St} {a : Act} {w : World} (sz j i K : Nat) {cs cs' : List Cell} (hj : σ.hp j = .cells cs) (hi : cs[i]? = some (.lf (.v (.slice none 0 0)))) (hK : Nat.ble 64 K = true) (hne : Nat.beq j K = false) (hcs : ((cs.map (Cell.kill K)).set i (.own K sz 0 0)) = cs') (h : SR E σ a w) :
   SR E (((σ.kill K).seth K (.row (.recs sz []))).seth j (.cells cs')) a w := by
 subst hcs
 have hjK : j ≠ K := by intro e; subst e; simp at hne
 obtain ⟨β, F, h⟩ := h
 have hK64 : 64 ≤ K := by simpa using hK
 have hk := h.kill K (by have := h.nbl; omega)
 have hB := hk.hp j
 have hjk : (σ.kill K).hp j = .cells (cs.map (Cell.kill K)) := by simp [St.kill, hjK, hj, Blk.kill]
 rw [hjk] at hB
 obtain ⟨g, cur, e1, e2, e3, e4⟩ := hB
 have h2 : SRb E (fun i => if i = K then none else β i) F ((σ.kill K).seth K (.row (.recs sz []))) a w := by
   refine ⟨hk.tm, hk.sz, hk.df, fun i => ?_, fun i l g h1 h2 e1 e2 => ?_, fun i g h1 e => ?_, hk.lt, hk.fr, hk.keep, hk.bb, hk.nbl⟩
   · by_cases e : i = K
     · subst e
       simp only [St.seth, if_true]
       exact ⟨fun r hr => by simp at hr, .inl ⟨rfl, fun g hg => by simp at hg⟩⟩
     · simpa [St.seth, e] using hk.hp i
   · by_cases ek : i = K
     · subst ek; simp at e1
     · by_cases el : l = K
       · subst el; simp at e2
       · exact hk.inj i l g (by simpa [St.seth, ek] using h1) (by simpa [St.seth, el] using h2) e1 e2
   · by_cases ek : i = K
     · subst ek; simp at e
     · exact hk.own i g (by simpa [St.seth, ek] using h1) e
 refine ⟨_, F, h2.setBlk (j := j) (by simp [St.seth, hjK, hjk]) ⟨g, cur, e1, e2, by simpa using e3, fun m x v hx hv => ?_⟩⟩
 rw [List.getElem?_set] at hx
 split at hx
 · rename_i him
   subst him
   split at hx
   · simp only [Option.some.injEq] at hx
     subst hx
     have h5 : (cs.map (Cell.kill K))[i]? = some (.lf (.v (.slice none 0 0))) := by rw [List.getElem?_map, hi]; rfl
     have := e4 i _ v h5 hv
     cases this with | lf h => cases h with | v _ _ => exact .own _ _ _ _ _ _ (Nat.le_refl _) (by decide) (.inl rfl)
   · cases hx
 · exact e4 m x v hx hv
theorem okN_iff {n s : List Int} : okN n s = true ↔ 1 ≤ n.length ∧ n.length ≤ 64 ∧ 1 ≤ s.length ∧ s.length ≤ 256 := by
 unfold okN
 simp only [Bool.and_eq_true, decide_eq_true_eq]
theorem tput_upd (es : MapL) (n s x : List Int) (hn1 : 1 ≤ n.length ∧ n.length ≤ 64) (hs : 1 ≤ s.length ∧ s.length ≤ 256) (he : es.length < 10000) (hf : findM es (strOfNums n) = some (.ints .u8 x)) :
   Ct Tryz.prog 64 [.c (.ptr 0 0), B8 n, B8 s] [tabB, .map es] (lv (.int .i64 0)) [tabB, .map (setM es (strOfNums n) (.ints .u8 s))] [] := by
 have hcl := clone_ok s (by omega)
 refine Ct_intro Tryz.func64 rfl rfl rfl rfl rfl (fun E hn hb => ?_)
 repeat refine nxm ?_
 exact rt1 []
theorem tput_err (es : MapL) (n s : List Int) (hb2 : ¬ (1 ≤ n.length ∧ n.length ≤ 64 ∧ 1 ≤ s.length ∧ s.length ≤ 256)) (hn1 : n.length ≤ 1000000) (hs1 : s.length ≤ 1000000) :
   Ct Tryz.prog 64 [.c (.ptr 0 0), B8 n, B8 s] [tabB, .map es] (lv (.int .i64 1)) [tabB, .map es] [] := by
 refine Ct_intro Tryz.func64 rfl rfl rfl rfl rfl (fun E hn hb => ?_)
 by_cases h1 : n.length < 1
 · repeat refine nxm ?_
   exact rt1 []
 · by_cases h2 : 64 < n.length
   · repeat refine nxm ?_
     exact rt1 []
   · by_cases h3 : s.length < 1
     · repeat refine nxm ?_
       exact rt1 []
     · have h4 : 256 < s.length := by omega
       repeat refine nxm ?_
       exact rt1 []
theorem tput_all (es : MapL) (n s : List Int) (hn1 : n.length ≤ 1000000) (hs1 : s.length ≤ 1000000) (he : es.length < 10000) (hx : findM es (strOfNums n) = none ∨ ∃ x, findM es (strOfNums n) = some (.ints .u8 x)) :
   Ct Tryz.prog 64 [.c (.ptr 0 0), B8 n, B8 s] [tabB, .map es] (lv (.int .i64 (if okN n s = true then 0 else 1))) [tabB, .map (if okN n s = true then setM es (strOfNums n) (.ints .u8 s) else es)] [] := by
 by_cases h : okN n s = true
 · rw [if_pos h, if_pos h]
   obtain ⟨a, b, c, d⟩ := okN_iff.1 h
   rcases hx with hf | ⟨x, hf⟩
   · exact tput_ok es n s ⟨a, b⟩ ⟨c, d⟩ he hf
   · exact tput_upd es n s x ⟨a, b⟩ ⟨c, d⟩ he hf
 · rw [if_neg h, if_neg h]
   exact tput_err es n s (fun e => h (okN_iff.2 e)) hn1 hs1
set_option maxHeartbeats 16000000 in
theorem tables_ok (l : List PairT) (hl : l.length ≤ 9223372036854775807) (hw : ∀ p ∈ l, (p.1.length ≤ 9223372036854775807 ∧ WfB p.1) ∧ (p.2.length ≤ 9223372036854775807 ∧ WfB p.2)) :
   Ct Tryz.prog 33 [.c (.lf (.recs 2 (l.map prL)))] [] (.tup [.c (.ptr 0 0), .c (.ptr 2 0)]) [] [tabB, .map (tabsT l).1, .cells [.own 3 2 0 (tabsT l).2.length], rowP (tabsT l).2] := by
 have htn := tnew_ok
 refine Ct_intro Tryz.func33 rfl rfl rfl rfl rfl (fun E hn hb => ?_)
 repeat refine nxm ?_
 refine W_sr (fun a w h => cell_nilR2 2 75 0 900 rfl rfl rfl rfl rfl h) ?_
 refine W_weaken (St.le_of (l := [(0, .c (.lf (.recs 2 (l.map prL)))), (4, .c (.ptr 73 0)), (5, .c (.ptr 75 0)), (6, lv (.int .i64 ((0 : Nat) : Int)))]) (h := [(73, .cells [.map 1073]), (75, .cells [.own 900 2 0 0]), (900, .row (.recs 2 [])), (1073, .map [])]) (by refine ⟨?_, ?_⟩ <;> (repeat' (first | exact trivial | exact rfl | refine ⟨?_, ?_⟩)) <;> first | exact rfl | (simp; done) | skip)) ?_
 refine W_loop (ι := {i : Nat // i ≤ l.length ∧ i ≤ 20 ∧ goodT i ((l.take i).foldl stepT2 ([], []))}) (fun i => St.of [(0, .c (.lf (.recs 2 (l.map prL)))), (4, .c (.ptr 73 0)), (5, .c (.ptr 75 0)), (6, lv (.int .i64 (i.1 : Int)))] [(73, .cells [.map 1073]), (75, .cells [.own 900 2 0 ((l.take i.1).foldl stepT2 ([], [])).2.length]), (900, rowP ((l.take i.1).foldl stepT2 ([], [])).2), (1073, .map ((l.take i.1).foldl stepT2 ([], [])).1)]) (fun i => 20 - i.1) (fun i => ?_) ⟨0, by omega, by omega, good_nil⟩
 obtain ⟨i, hi, hi20, hgd⟩ := i
 dsimp only
 by_cases hi2 : i < l.length ∧ i < 20
 · have hm : l.getD i ([], []) ∈ l := by
     rw [List.getD_eq_getElem?_getD, List.getElem?_eq_getElem hi2.1]
     exact List.getElem_mem hi2.1
   have hnx := tabs_next l i hi2.1
   have hg2 : goodT (i + 1) ((l.take (i + 1)).foldl stepT2 ([], [])) := by
     rw [hnx]
     exact good_step hgd (hw _ hm).1.2 (hw _ hm).2.2
   have hq : l.getD (i : Int).toNat default = l.getD i ([], []) := rfl
   have hlen := hw _ hm
   generalize (l.take i).foldl stepT2 ([], []) = S at *
   generalize l.getD i ([], []) = p at *
   repeat (first | refine nxm ?_ | rw [hq])
   obtain ⟨al, rt, le1, le2⟩ := hgd
   have e1 : p.1.take (min (p.1.length : Int) 100).toNat = (cutN p).1 := rfl
   have e2 : p.2.take (min (p.2.length : Int) 300).toNat = (cutN p).2 := rfl
   have c1 : (cutN p).1.length ≤ 100 := by rw [← e1]; simp; omega
   have c2 : (cutN p).2.length ≤ 300 := by rw [← e2]; simp; omega
   have w1 : WfB (cutN p).1 := fun y hy => hlen.1.2 y (List.mem_of_mem_take hy)
   have hst : stepT2 S p = if okN (cutN p).1 (cutN p).2 = true then (setM S.1 (strOfNums (cutN p).1) (.ints .u8 (cutN p).2), insP S.2 (cutN p).1 (cutN p).2) else S := rfl
   rw [hst] at hnx
   clear hst
   rw [e1, e2]
   generalize (cutN p).1 = n at *
   generalize (cutN p).2 = s at *
   have hal := al n w1
   have hpn := pl_none S.2 n
   have ht := tput_all S.1 n s (by omega) (by omega) (by omega) (by rw [hal]; cases gtR S.2 n with | none => exact .inl rfl | some x => exact .inr ⟨x, rfl⟩)
   have hls : ∀ q ∈ S.2, q.1.length ≤ 1000000 := fun q hq => by have := (rt q hq).1; omega
   by_cases ho : okN n s = true
   · rw [if_pos ho] at hnx
     rw [if_pos ho, if_pos ho] at ht
     obtain ⟨o1, o2, o3, o4⟩ := okN_iff.1 ho
     cases hf : (plP S.2 n).2 with
     | false =>
       have hr := rput_new S.2 n s (by omega) hls ⟨o1, o2⟩ ⟨o3, o4⟩ hf
       rw [ins_new S.2 n s hf] at hr
       have hr' := fun _ : Unit => hr
       clear hr
       repeat refine nxm ?_
       have hr := hr' ()
       refine frcL 900 75 ?_
       repeat refine nxm ?_
       refine N_sr (fun a w h => SR.mv 119 900 rfl rfl rfl rfl rfl h) ?_
       refine N_round ⟨i + 1, by omega, by omega, hg2⟩ (by dsimp only; omega) (St.le_of ⟨⟨rfl, rfl, rfl, rfl⟩, ⟨rfl, ?_, ?_, ?_⟩⟩)
       · dsimp only; rw [hnx]; rfl
       · dsimp only; rw [hnx]; rfl
       · dsimp only; rw [hnx]; rfl
     | true =>
       have hr := rput_upd S.2 n s (by omega) hls ⟨o1, o2⟩ ⟨o3, o4⟩ hf
       have hl2 : (insP S.2 n s).length = S.2.length := by rw [← ins_upd S.2 n s hf, List.length_set]
       rw [ins_upd S.2 n s hf] at hr
       repeat refine nxm ?_
       refine N_round ⟨i + 1, by omega, by omega, hg2⟩ (by dsimp only; omega) (St.le_of ⟨⟨rfl, rfl, rfl, rfl⟩, ⟨rfl, ?_, ?_, ?_⟩⟩)
       · dsimp only; rw [hnx]; exact congrArg (fun k => Blk.cells [.own 900 2 0 k]) hl2.symm
       · dsimp only; rw [hnx]; rfl
       · dsimp only; rw [hnx]; rfl
   · rw [if_neg ho] at hnx
     rw [if_neg ho, if_neg ho] at ht
     have hr := rput_err S.2 n s (fun e => ho (okN_iff.2 e)) (by omega) (by omega)
     repeat refine nxm ?_
     refine N_round ⟨i + 1, by omega, by omega, hg2⟩ (by dsimp only; omega) (St.le_of ⟨⟨rfl, rfl, rfl, rfl⟩, ⟨rfl, ?_, ?_, ?_⟩⟩)
     · dsimp only; rw [hnx]; rfl
     · dsimp only; rw [hnx]; rfl
     · dsimp only; rw [hnx]; rfl
 · have e : (l.take i).foldl stepT2 ([], []) = tabsT l := by
     unfold tabsT
     by_cases h : i = 20
     · rw [h]
     · rw [List.take_of_length_le (show l.length ≤ i by omega), List.take_of_length_le (show l.length ≤ 20 by omega)]
   rw [e]
   repeat refine nxm ?_
   exact rt1 [73, 1073, 75, 900]

theorem gt_name {n s : List Int} : ∀ {L : List PairT}, gtR L n = some s → ∃ r ∈ L, r.1 = n ∧ r.2 = s
 | [], h => by simp [gtR] at h
 | p :: L, h => by
   unfold gtR at h
   split at h
   · obtain ⟨r, h1, h2⟩ := gt_name h
     exact ⟨r, List.mem_cons_of_mem _ h1, h2⟩
   · split at h
     · rename_i h2
       exact ⟨p, List.mem_cons_self .., (cmpL_eq _ _).1 h2, Option.some.inj h⟩
     · simp at h
theorem good_fold : ∀ (l : List PairT) (k : Nat) (S : MapL × List PairT), goodT k S → (∀ p ∈ l, WfB p.1 ∧ WfB p.2) → goodT (k + l.length) (l.foldl stepT2 S)
 | [], k, S, h, _ => h
 | p :: l, k, S, h, hw => by
   have := good_fold l (k + 1) (stepT2 S p) (good_step h (hw p (List.mem_cons_self ..)).1 (hw p (List.mem_cons_self ..)).2) (fun q hq => hw q (List.mem_cons_of_mem _ hq))
   rw [List.length_cons, show k + (l.length + 1) = k + 1 + l.length by omega]
   exact this
theorem good_tabs (l : List PairT) (hw : ∀ p ∈ l, WfB p.1 ∧ WfB p.2) : alikeT (tabsT l).1 (tabsT l).2 ∧ rightT2 (tabsT l).2 ∧ (tabsT l).1.length ≤ 20 ∧ (tabsT l).2.length ≤ 20 := by
 have h := good_fold (l.take 20) 0 ([], []) good_nil (fun p hp => hw p (List.mem_of_mem_take hp))
 have hl : (l.take 20).length ≤ 20 := by simp; omega
 unfold tabsT
 exact ⟨h.1, h.2.1, by have := h.2.2.1; omega, by have := h.2.2.2; omega⟩

theorem allP_of {α : Type} {f : α → Prop} : ∀ {l : List α}, (∀ p, p ∈ l → f p) → AllP (l.map f)
 | [], _ => trivial
 | [p], h => h p (List.mem_singleton.2 rfl)
 | p :: q :: l, h => ⟨h p (List.mem_cons_self ..), allP_of (l := q :: l) fun r hr => h r (List.mem_cons_of_mem _ hr)⟩
theorem sets_same {σ : St} : ∀ (l : List (Nat × Blk)), (∀ p, p ∈ l → σ.hp p.1 = p.2) → σ.sets l = σ
 | [], _ => rfl
 | (j, b) :: l, h => by
   have e : σ.seth j b = σ := by
     have h1 : σ.hp j = b := h (j, b) (List.mem_cons_self ..)
     cases σ with
     | mk tm hp =>
       simp only [St.seth, St.mk.injEq, true_and]
       funext i
       by_cases hi : i = j
       · subst hi; simp only [if_true]; exact h1.symm
       · simp only [hi, if_false]
   show (σ.seth j b).sets l = σ
   rw [e]
   exact sets_same l fun p hp => h p (List.mem_cons_of_mem _ hp)
theorem ordL_mem {α : Type} : ∀ (l : List α) (n : Nat) (p : Nat × α), p ∈ ordL n l → ∃ i : Nat, p.1 = n + i ∧ l[i]? = some p.2
 | [], n, p, h => by cases h
 | y :: l, n, p, h => by
   rcases List.mem_cons.1 h with rfl | h
   · exact ⟨0, rfl, rfl⟩
   · obtain ⟨i, h1, h2⟩ := ordL_mem l (n + 1) p h
     exact ⟨i + 1, by omega, h2⟩
theorem zipB_get : ∀ (ks : List Nat) (bs : List Blk) (p : Nat × Blk), p ∈ zipB ks bs → ∃ i : Nat, ks[i]? = some p.1 ∧ bs[i]? = some p.2
 | [], _, p, h => by cases h
 | _ :: _, [], p, h => by cases h
 | k :: ks, b :: bs, p, h => by
   rcases List.mem_cons.1 h with rfl | h
   · exact ⟨0, rfl, rfl⟩
   · obtain ⟨i, h1, h2⟩ := zipB_get ks bs p h
     exact ⟨i + 1, h1, h2⟩
section
variable {P : Program} {E : Env} {ops : Array Oper} {o : Oper} {σ : St}
theorem DU_cl {ns b own : List Nat} {bs : List (List Nat × List Nat)} {l : List Oper} {K : St → Prop} {c : Call} {fo : Operand} {f : FuncId} {first cap : List Cell} {pf : List Prop} {xs : List Av} {bor : List Blk} {res : Av} {nt : Nat} (ks : List Nat) (hn : E.n = nt) (hF : Ct P f xs bor res bor []) (hop : o.op = .call c) (hg : o.guard = none) (hE0 : dstOk nt o.dst = true)
   (hcv : c.callee = .value fo) (hfo : ox ⟨σ.tm, fgt b σ.hp⟩ fo = (pf, .c (.fn (.func f) first cap))) (hC : CallOk ⟨σ.tm, fgt b σ.hp⟩ (first.map Av.c ++ (oxs ⟨σ.tm, fgt b σ.hp⟩ c.args.toList).2 ++ cap.map Av.c) xs bor res bor [] ks o.dst)
   (hp : AllP (pf ++ (oxs ⟨σ.tm, fgt b σ.hp⟩ c.args.toList).1))
   (hk : DrawU P E ops ns bs l (σ.put o.dst (res.ren (crho ks o.dst 0))) K) : DrawU P E ops ns ((b, own) :: bs) (o :: l) σ K := by
 refine DU_step (x := res.ren (crho ks o.dst 0)) (u := []) ?_ (fun j hj => absurd rfl hj) hk
 intro τ hl β F a w hS hnn KK Q hK
 rw [show Region.wanted o (yielded ops a.tmps) = true by simp [Region.wanted, hg], if_pos rfl]
 have hcut : SRb E β F ⟨τ.tm, fgt b σ.hp⟩ a w := hS.cut hl
 have x1 : ox ⟨τ.tm, fgt b σ.hp⟩ fo = ox ⟨σ.tm, fgt b σ.hp⟩ fo := hl.ox fo (by rw [hop]; simp [Op.operands, Call.operands, hcv])
 have x2 : oxs ⟨τ.tm, fgt b σ.hp⟩ c.args.toList = oxs ⟨σ.tm, fgt b σ.hp⟩ c.args.toList := oxs_like (o := o) (τ := ⟨τ.tm, fgt b σ.hp⟩) (σ := ⟨σ.tm, fgt b σ.hp⟩) (fun y hy => hl.ox y hy) _ fun y hy => by
   rw [hop]; simp only [Op.operands, Call.operands]; simp at hy ⊢; first | exact .inr hy | exact .inl hy | simp [hy]
 have hfv := oxR hcut fo
 rw [x1, hfo] at hfv
 have hfv := hfv hp.left
 generalize hv : a.eval fo = fv at hfv
 cases hfv with | c hfv => cases hfv with | fn _ _ _ f1 c1 n1 n2 r1 r2 =>
 obtain ⟨l1, l2⟩ := oxs_R hcut c.args.toList (by rw [x2]; exact hp.right)
 rw [x2] at l1 l2
 have hrun : (execOp a.eval o).run P w = .ok (.enter f (f1 ++ c.args.map a.eval ++ c1)) w := by
   simp only [execOp, hop, resolve, hcv, hv, Deferred.ofValue, Sem.run_bind, Sem.run_pure, Result.andThen_ok, invoke]
   exact run_callFunc hF.2.1
 unfold Oper.wp
 rw [hrun, Oper.upon_enter]
 have hbor : ∀ i blk, bor[i]? = some blk → τ.hp (ks.getD i 0) = blk.ren (crho ks o.dst 0) := fun i blk hi => by
   have h1 := allP_map hC.cbor _ (mem_ordL bor 0 i blk hi)
   have h2 := allP_map hC.cgone _ (mem_ordL bor 0 i blk hi)
   have h1 : fgt b σ.hp (ks.getD i 0) = blk.ren (crho ks o.dst 0) := by simpa using h1
   have h2 : blk ≠ .gone := by simpa using h2
   rw [fgt_eq] at h1
   cases hb : memB (ks.getD i 0) b with
   | true =>
     rw [hb] at h1
     exact absurd h1.symm (Blk.ren_ne h2)
   | false =>
     rw [hb] at h1
     rw [hl.hp _ hb]
     exact h1
 have hC2 : CallOk τ (first.map Av.c ++ (oxs ⟨σ.tm, fgt b σ.hp⟩ c.args.toList).2 ++ cap.map Av.c) xs bor res bor [] ks o.dst := ⟨hC.cargs, allP_of fun p hp => by
   obtain ⟨i, blk⟩ := p
   obtain ⟨k, hk1, hk2⟩ := ordL_mem bor 0 _ hp
   dsimp only at hk1 ⊢
   have := hbor k blk hk2
   rw [hk1, Nat.zero_add]
   exact this, hC.cgone, hC.cok⟩
 have hcore := call_coreB (σ := τ) (bs := ks) (d := o.dst) (vs := (f1 ++ c.args.map a.eval ++ c1).toList) hF hS (fun i => .inr (Nat.zero_le _)) hC2 (by simp [n1, n2, l1]) (fun i y v hy hv => by
   simp only [Array.toList_append, List.append_assoc] at hv
   rw [List.append_assoc] at hy
   rcases Nat.lt_or_ge i first.length with h | h
   · rw [List.getElem?_append_left (by simpa using h)] at hy
     rw [List.getElem?_append_left (by simp [n1]; exact h)] at hv
     rw [List.getElem?_map, Option.map_eq_some_iff] at hy
     obtain ⟨x, hx, rfl⟩ := hy
     exact .c (r1 i x v hx (by simpa using hv))
   · rw [List.getElem?_append_right (by simpa using h)] at hy
     rw [List.getElem?_append_right (by simp [n1]; exact h)] at hv
     simp only [List.length_map, Array.length_toList, n1] at hy hv
     rcases Nat.lt_or_ge (i - first.length) c.args.toList.length with h' | h'
     · rw [List.getElem?_append_left (by rw [l1]; exact h')] at hy
       rw [List.getElem?_append_left (by simpa using h')] at hv
       exact l2 _ y v hy (by simpa using hv)
     · rw [List.getElem?_append_right (by rw [l1]; exact h')] at hy
       rw [List.getElem?_append_right (by simpa using h')] at hv
       rw [List.getElem?_map, Option.map_eq_some_iff] at hy
       obtain ⟨x, hx, rfl⟩ := hy
       refine .c (r2 _ x v hx ?_)
       simp only [l1] at hx
       simpa [l1] using hv)
 rw [Array.toArray_toList] at hcore
 refine hcore.mono fun e w' hq => ?_
 obtain ⟨v, rfl, β', F', hv', hβ', hS'⟩ := hq
 have e3 : afterCall τ ks o.dst bor [] = τ := by
   unfold afterCall
   have h1 := sets_same (σ := τ) (zipB ks (bor.map (Blk.ren (crho ks o.dst 0)))) fun p hp => by
     obtain ⟨i, h1, h2⟩ := zipB_get _ _ p hp
     rw [List.getElem?_map, Option.map_eq_some_iff] at h2
     obtain ⟨blk, h2, h3⟩ := h2
     have := hbor i blk h2
     rw [List.getD_eq_getElem?_getD, h1, h3] at this
     exact this
   simp only [List.length_nil, List.map_nil] at h1 ⊢
   rw [h1]
   rfl
 simp only [List.length_nil] at e3 hS' hv' hβ'
 rw [e3] at hS'
 exact hK _ _ β' F' (hS'.put hv' (dstOk_lt (by rw [hn]; exact hE0))) fun k _ => hβ' k (by simp [newKeys])
end
end Go.Proofs.YthoaneleeabadaaGreat

/-
  The layer: slices.Sorted(maps.Keys(m)) of a map of one name, by the library's own contract. The condition: a name of at most a million bytes.
-/
import Derived.Test.YtohfhephkjihfaaGreatA37
import Derived.Test.YtohfhephkjihfaaGreatSxQ
import Derived.Test.YtohfhephkjihfaaGreatSxI
import Derived.Maps.Own
import Derived.Sort.KeysCollected
namespace Go.Proofs.YtohfhephkjihfaaGreat
set_option linter.unusedSimpArgs false
set_option linter.unusedVariables false
open Go Go.Sx
set_option maxRecDepth 10000
theorem cell_nilR2 {E : Env} {σ : St} {a : Act} {w : World} (sz j i K : Nat) {cs cs' : List Cell} (hj : σ.hp j = .cells cs) (hi : cs[i]? = some (.lf (.v (.slice none 0 0)))) (hK : Nat.ble 64 K = true) (hne : Nat.beq j K = false) (hcs : ((cs.map (Cell.kill K)).set i (.own K sz 0 0)) = cs') (h : SR E σ a w) :
   SR E (((σ.kill K).seth K (.row (.recs sz []))).seth j (.cells cs')) a w := by
 subst hcs
 have hjK : j ≠ K := by intro e; subst e; simp at hne
 obtain ⟨β, F, h⟩ := h
 have hK64 : 64 ≤ K := by simpa using hK
 have hk := h.kill K (by have := h.nbl; omega)
 have hB := hk.hp j
 have hjk : (σ.kill K).hp j = .cells (cs.map (Cell.kill K)) := by simp [St.kill, hjK, hj, Blk.kill]
 rw [hjk] at hB
 obtain ⟨g, cur, e1, e2, e3, e4⟩ := hB
 have h2 : SRb E (fun i => if i = K then none else β i) F ((σ.kill K).seth K (.row (.recs sz []))) a w := by
   refine ⟨hk.tm, hk.sz, hk.df, fun i => ?_, fun i l g h1 h2 e1 e2 => ?_, fun i g h1 e => ?_, hk.lt, hk.fr, hk.keep, hk.bb, hk.nbl⟩
   · by_cases e : i = K
     · subst e
       simp only [St.seth, if_true]
       exact ⟨fun r hr => by simp at hr, .inl ⟨rfl, fun g hg => by simp at hg⟩⟩
     · simpa [St.seth, e] using hk.hp i
   · by_cases ek : i = K
     · subst ek; simp at e1
     · by_cases el : l = K
       · subst el; simp at e2
       · exact hk.inj i l g (by simpa [St.seth, ek] using h1) (by simpa [St.seth, el] using h2) e1 e2
   · by_cases ek : i = K
     · subst ek; simp at e
     · exact hk.own i g (by simpa [St.seth, ek] using h1) e
 refine ⟨_, F, h2.setBlk (j := j) (by simp [St.seth, hjK, hjk]) ⟨g, cur, e1, e2, by simpa using e3, fun m x v hx hv => ?_⟩⟩
 rw [List.getElem?_set] at hx
 split at hx
 · rename_i him
   subst him
   split at hx
   · simp only [Option.some.injEq] at hx
     subst hx
     have h5 : (cs.map (Cell.kill K))[i]? = some (.lf (.v (.slice none 0 0))) := by rw [List.getElem?_map, hi]; rfl
     have := e4 i _ v h5 hv
     cases this with | lf h => cases h with | v _ _ => exact .own _ _ _ _ _ _ (Nat.le_refl _) (by decide) (.inl rfl)
   · cases hx
 · exact e4 m x v hx hv
theorem okN_iff {n s : List Int} : okN n s = true ↔ 1 ≤ n.length ∧ n.length ≤ 64 ∧ 1 ≤ s.length ∧ s.length ≤ 256 := by
 unfold okN
 simp only [Bool.and_eq_true, decide_eq_true_eq]
theorem tput_upd (es : MapL) (n s x : List Int) (hn1 : 1 ≤ n.length ∧ n.length ≤ 64) (hs : 1 ≤ s.length ∧ s.length ≤ 256) (he : es.length < 10000) (hf : findM es (strOfNums n) = some (.ints .u8 x)) :
   Ct Tryz.prog 6 [.c (.ptr 0 0), B8 n, B8 s] [tabB, .map es] (lv (.int .i64 0)) [tabB, .map (setM es (strOfNums n) (.ints .u8 s))] [] := by
 have hcl := clone_ok s (by omega)
 refine Ct_intro Tryz.func6 rfl rfl rfl rfl rfl (fun E hn hb => ?_)
 repeat refine nxm ?_
 exact rt1 []
theorem tput_err (es : MapL) (n s : List Int) (hb2 : ¬ (1 ≤ n.length ∧ n.length ≤ 64 ∧ 1 ≤ s.length ∧ s.length ≤ 256)) (hn1 : n.length ≤ 1000000) (hs1 : s.length ≤ 1000000) :
   Ct Tryz.prog 6 [.c (.ptr 0 0), B8 n, B8 s] [tabB, .map es] (lv (.int .i64 1)) [tabB, .map es] [] := by
 refine Ct_intro Tryz.func6 rfl rfl rfl rfl rfl (fun E hn hb => ?_)
 by_cases h1 : n.length < 1
 · repeat refine nxm ?_
   exact rt1 []
 · by_cases h2 : 64 < n.length
   · repeat refine nxm ?_
     exact rt1 []
   · by_cases h3 : s.length < 1
     · repeat refine nxm ?_
       exact rt1 []
     · have h4 : 256 < s.length := by omega
       repeat refine nxm ?_
       exact rt1 []
theorem tput_all (es : MapL) (n s : List Int) (hn1 : n.length ≤ 1000000) (hs1 : s.length ≤ 1000000) (he : es.length < 10000) (hx : findM es (strOfNums n) = none ∨ ∃ x, findM es (strOfNums n) = some (.ints .u8 x)) :
   Ct Tryz.prog 6 [.c (.ptr 0 0), B8 n, B8 s] [tabB, .map es] (lv (.int .i64 (if okN n s = true then 0 else 1))) [tabB, .map (if okN n s = true then setM es (strOfNums n) (.ints .u8 s) else es)] [] := by
 by_cases h : okN n s = true
 · rw [if_pos h, if_pos h]
   obtain ⟨a, b, c, d⟩ := okN_iff.1 h
   rcases hx with hf | ⟨x, hf⟩
   · exact tput_ok es n s ⟨a, b⟩ ⟨c, d⟩ he hf
   · exact tput_upd es n s x ⟨a, b⟩ ⟨c, d⟩ he hf
 · rw [if_neg h, if_neg h]
   exact tput_err es n s (fun e => h (okN_iff.2 e)) hn1 hs1

theorem gt_name {n s : List Int} : ∀ {L : List PairT}, gtR L n = some s → ∃ r ∈ L, r.1 = n ∧ r.2 = s
 | [], h => by simp [gtR] at h
 | p :: L, h => by
   unfold gtR at h
   split at h
   · obtain ⟨r, h1, h2⟩ := gt_name h
     exact ⟨r, List.mem_cons_of_mem _ h1, h2⟩
   · split at h
     · rename_i h2
       exact ⟨p, List.mem_cons_self .., (cmpL_eq _ _).1 h2, Option.some.inj h⟩
     · simp at h
end Go.Proofs.YtohfhephkjihfaaGreat

namespace Go.Sx
open Go
set_option linter.unusedVariables false
set_option linter.unusedSimpArgs false
section
variable {P : Program} {E : Env} {ops : Array Oper} {Q : Exit → Act → World → Prop} {rest : List Oper} {o : Oper} {σ : St} {α : Type} {f : α → List Leaf}
theorem opy_loadF {t : TypeId} {y : Operand} {p : List Prop} {j sz i k : Nat} {h : α → Leaf} {rs : List α} {z0 : α} (hop : o.op = .load t y) (ht : tagg P t = false) (ht2 : (P.underlying t).isSome = true) (hy : ox σ y = (p, .c (.pel j sz i k))) (hb : σ.hp j = .row (.recs sz (rs.map f))) (hf : ∀ a, (f a)[k]? = some (h a))
   (hp : AllP p) (hlt : i < rs.length) : OpY P E o σ (.c (.lf (h (rs.getD i z0)))) := by
 refine opy_val fun β F a w hS => ?_
 have hv := oxR hS y
 rw [hy] at hv
 have hv := hv hp
 generalize he1 : a.eval y = v1 at hv
 dsimp only at hv
 cases hv with | c hv => cases hv with | pel _ _ _ _ g hgj =>
 have hB := hS.hp j
 rw [hb] at hB
 obtain ⟨hall, ⟨h0, _⟩ | ⟨g', cur, hg', hrow, hcc⟩⟩ := hB
 · simp at h0; subst h0; simp at hlt
 · rw [hgj] at hg'
   obtain rfl := Option.some.inj hg'
   obtain ⟨v, e1, e2⟩ := hcc i (f (rs.getD i z0)) k (h (rs.getD i z0)) (by simp [hlt]) (hf _)
   refine ⟨v, w, F, ?_, .refl w, fun _ h => h, fun _ h => .inl h, .c (.lf e2)⟩
   simp only [execOp, hop, he1]
   refine run_v ?_
   have hc : w.cell? ⟨g, i * sz + k, none⟩ = some v := by rw [hrow.cell]; exact e1
   simp [Instr.loadAt, Instr.sureAddr, loadVar, Sem.run_bind, run_isAgg' ht2, ht, hc]
end

section
variable {P : Program} {E : Env} {ops : Array Oper} {σ : St} {o : Oper} {α : Type} {f : α → List Leaf} {ns b own : List Nat} {bs : List (List Nat × List Nat)} {l : List Oper} {K : St → Prop}
theorem dlf1 {nt : Nat} {dd : Option Nat} {t : TypeId} {y : Operand} {p : List Prop} {j sz i k : Nat} {h : α → Leaf} {rs : List α} {z0 : α} (hn : E.n = nt) (hk : DrawU P E ops ns bs l (σ.put dd (.c (.lf (h (rs.getD i z0))))) K) (hop : o.op = .load t y := by exact rfl) (hg : o.guard = none := by exact rfl) (hdf : forceO o.dst some = some dd := by exact rfl) (hd : dstOk nt dd = true := by exact rfl) (ht : tagg P t = false := by exact rfl) (ht2 : (P.underlying t).isSome = true := by exact rfl)
   (hy : ox ⟨σ.tm, fgt b σ.hp⟩ y = (p, .c (.pel j sz i k)) := by exact rfl) (hb : fgt b σ.hp j = .row (.recs sz (rs.map f)) := by exact rfl) (hf : ∀ a, (f a)[k]? = some (h a) := by exact fun _ => rfl) (hz0 : Df z0 := by first | exact Df.nil | exact Df.dflt)
   (hp : AllP p := by exact vcs) (hlt : i < rs.length := by first | omega | (simp; done) | (simp; omega) | (simp at *; omega)) : DrawU P E ops ns ((b, own) :: bs) (o :: l) σ K :=
 DU_op hdf (by rw [hn]; exact hd) (ops_of (fun τ hl => opy_loadF (f := f) (h := h) (rs := rs) (z0 := z0) hop ht ht2 ((hl.ox y (by rw [hop]; simp [Op.operands])).trans hy) ((congrFun hl.hp j).trans hb) hf hp hlt) hg) hk
end

theorem allP_ofE {α : Type} {f : α → Prop} : ∀ {l : List α}, (∀ p, p ∈ l → f p) → AllP (l.map f)
 | [], _ => trivial
 | [p], h => h p (List.mem_singleton.2 rfl)
 | p :: q :: l, h => ⟨h p (List.mem_cons_self ..), allP_ofE (l := q :: l) fun r hr => h r (List.mem_cons_of_mem _ hr)⟩
theorem ordL_memE {α : Type} : ∀ (l : List α) (n : Nat) (p : Nat × α), p ∈ ordL n l → ∃ i : Nat, p.1 = n + i ∧ l[i]? = some p.2
 | [], n, p, h => by cases h
 | y :: l, n, p, h => by
   rcases List.mem_cons.1 h with rfl | h
   · exact ⟨0, rfl, rfl⟩
   · obtain ⟨i, h1, h2⟩ := ordL_memE l (n + 1) p h
     exact ⟨i + 1, by omega, h2⟩
theorem fndB_no : ∀ {l : List (Nat × Blk)} {k : Nat}, k ∉ l.map (·.1) → fndB l k = none
 | [], k, _ => rfl
 | (j, b) :: l, k, h => by
   simp only [List.map_cons, List.mem_cons, not_or] at h
   simp only [fndB, show Nat.beq k j = false from Bool.eq_false_iff.2 fun e => h.1 (Nat.eq_of_beq_eq_true e)]
   exact fndB_no h.2
theorem fndB_mem : ∀ {l : List (Nat × Blk)} {k : Nat}, fndB l k = none → k ∉ l.map (·.1)
 | [], k, _ => by simp
 | (j, b) :: l, k, h => by
   simp only [fndB] at h
   cases hb : Nat.beq k j with
   | true => rw [hb] at h; cases h
   | false =>
     rw [hb] at h
     simp only [List.map_cons, List.mem_cons, not_or]
     exact ⟨fun e => (by rw [e, Nat.beq_refl] at hb; cases hb), fndB_mem h⟩
theorem sets_upd : ∀ (l : List (Nat × Blk)) (σ : St), (l.map (·.1)).Nodup → σ.sets l = ⟨σ.tm, updB σ.hp l⟩
 | [], σ, _ => rfl
 | (j, b) :: l, σ, h => by
   simp only [List.map_cons, List.nodup_cons] at h
   show (σ.seth j b).sets l = _
   rw [sets_upd l _ h.2]
   refine congrArg (St.mk σ.tm) ?_
   funext i
   rw [updB_eq, updB_eq]
   simp only [fndB]
   cases hb : Nat.beq i j with
   | true =>
     rw [Nat.eq_of_beq_eq_true hb, fndB_no h.1]
     simp [St.seth]
   | false =>
     have : i ≠ j := fun e => by rw [e, Nat.beq_refl] at hb; cases hb
     dsimp only
     cases fndB l i <;> simp [St.seth, this]
theorem sets_app : ∀ (l m : List (Nat × Blk)) (σ : St), (σ.sets l).sets m = σ.sets (l ++ m)
 | [], m, σ => rfl
 | (j, b) :: l, m, σ => sets_app l m (σ.seth j b)
section
variable {P : Program} {E : Env} {ops : Array Oper} {o : Oper} {σ : St}
theorem lenNK (d : Option Nat) : ∀ n, (newKeys d n).length = n := by intro n; induction n with
 | zero => rfl
 | succ n ih => simp [newKeys, ih]
theorem DU_cn {ns b own : List Nat} {bs : List (List Nat × List Nat)} {l : List Oper} {K : St → Prop} {c : Call} {fo : Operand} {f : FuncId} {first cap : List Cell} {pf : List Prop} {xs : List Av} {bor bor' : List Blk} {news : List Blk} {res : Av} {nt dn : Nat} (ks : List Nat) (hn : E.n = nt) (hF : Ct P f xs bor res bor' news) (hop : o.op = .call c) (hg : o.guard = none) (hd : o.dst = some dn) (hE0 : dstOk nt o.dst = true)
   (hcv : c.callee = .value fo) (hfo : ox ⟨σ.tm, fgt b σ.hp⟩ fo = (pf, .c (.fn (.func f) first cap))) (hC : CallOk ⟨σ.tm, fgt b σ.hp⟩ (first.map Av.c ++ (oxs ⟨σ.tm, fgt b σ.hp⟩ c.args.toList).2 ++ cap.map Av.c) xs bor res bor' news ks (some dn))
   (hp : AllP (pf ++ (oxs ⟨σ.tm, fgt b σ.hp⟩ c.args.toList).1)) (hlen : ks.length = bor'.length) (hns : news.length = 0 ∨ (news.length = 1 ∧ memB (nk (some dn) 0) ns = true)) (hown : (ks ++ newKeys (some dn) news.length).all (fun k => memB k own) = true)
   (hk : DrawU P E ops ns bs l ((afterCall σ ks (some dn) bor' news).put (some dn) (res.ren (crho ks (some dn) news.length))) K) : DrawU P E ops ns ((b, own) :: bs) (o :: l) σ K := by
 have hnd : (ks ++ newKeys (some dn) news.length).Nodup := by
   have := hC.cok
   simp only [Bool.and_eq_true] at this
   simpa using this.2
 obtain ⟨u, hu⟩ : ∃ u, zipB ks (bor'.map (Blk.ren (crho ks (some dn) news.length))) ++ zipB (newKeys (some dn) news.length) (news.map (Blk.ren (crho ks (some dn) news.length))) = u := ⟨_, rfl⟩
 have hfst : u.map (·.1) = ks ++ newKeys (some dn) news.length := by
   rw [← hu, List.map_append, zipB_fst _ _ (by simpa using hlen), zipB_fst _ _ (by simp [lenNK])]
 have eaf : ∀ τ : St, afterCall τ ks (some dn) bor' news = ⟨τ.tm, updB τ.hp u⟩ := fun τ => by
   unfold afterCall
   rw [sets_app, hu]
   exact sets_upd u τ (by rw [hfst]; exact hnd)
 rw [eaf] at hk
 refine DU_stepG (x := res.ren (crho ks (some dn) news.length)) (u := u) ?_ (fun j hj => ?_) (by rw [hd]; exact hk)
 · intro τ hl β F a w hS hnn KK Q hK
   rw [show Region.wanted o (yielded ops a.tmps) = true by simp [Region.wanted, hg], if_pos rfl]
   have hcut : SRb E β F ⟨τ.tm, fgt b σ.hp⟩ a w := hS.cut hl
   have x1 : ox ⟨τ.tm, fgt b σ.hp⟩ fo = ox ⟨σ.tm, fgt b σ.hp⟩ fo := hl.ox fo (by rw [hop]; simp [Op.operands, Call.operands, hcv])
   have x2 : oxs ⟨τ.tm, fgt b σ.hp⟩ c.args.toList = oxs ⟨σ.tm, fgt b σ.hp⟩ c.args.toList := oxs_like (o := o) (τ := ⟨τ.tm, fgt b σ.hp⟩) (σ := ⟨σ.tm, fgt b σ.hp⟩) (fun y hy => hl.ox y hy) _ fun y hy => by
     rw [hop]; simp only [Op.operands, Call.operands]; simp at hy ⊢; first | exact .inr hy | exact .inl hy | simp [hy]
   have hfv := oxR hcut fo
   rw [x1, hfo] at hfv
   have hfv := hfv hp.left
   generalize hv : a.eval fo = fv at hfv
   cases hfv with | c hfv => cases hfv with | fn _ _ _ f1 c1 n1 n2 r1 r2 =>
   obtain ⟨l1, l2⟩ := oxs_R hcut c.args.toList (by rw [x2]; exact hp.right)
   rw [x2] at l1 l2
   have hrun : (execOp a.eval o).run P w = .ok (.enter f (f1 ++ c.args.map a.eval ++ c1)) w := by
     simp only [execOp, hop, resolve, hcv, hv, Deferred.ofValue, Sem.run_bind, Sem.run_pure, Result.andThen_ok, invoke]
     exact run_callFunc hF.2.1
   unfold Oper.wp
   rw [hrun, Oper.upon_enter]
   have hbor : ∀ i blk, bor[i]? = some blk → τ.hp (ks.getD i 0) = blk.ren (crho ks (some dn) news.length) := fun i blk hi => by
     have h1 := allP_map hC.cbor _ (mem_ordL bor 0 i blk hi)
     have h2 := allP_map hC.cgone _ (mem_ordL bor 0 i blk hi)
     have h1 : fgt b σ.hp (ks.getD i 0) = blk.ren (crho ks (some dn) news.length) := by simpa using h1
     have h2 : blk ≠ .gone := by simpa using h2
     rw [fgt_eq] at h1
     cases hb : memB (ks.getD i 0) b with
     | true =>
       rw [hb] at h1
       exact absurd h1.symm (Blk.ren_ne h2)
     | false =>
       rw [hb] at h1
       rw [hl.hp _ hb]
       exact h1
   have hC2 : CallOk τ (first.map Av.c ++ (oxs ⟨σ.tm, fgt b σ.hp⟩ c.args.toList).2 ++ cap.map Av.c) xs bor res bor' news ks (some dn) := ⟨hC.cargs, allP_ofE fun p hp => by
     obtain ⟨i, blk⟩ := p
     obtain ⟨k, hk1, hk2⟩ := ordL_memE bor 0 _ hp
     dsimp only at hk1 ⊢
     have := hbor k blk hk2
     rw [hk1, Nat.zero_add]
     exact this, hC.cgone, hC.cok⟩
   have hcore := call_coreB (σ := τ) (bs := ks) (d := some dn) (vs := (f1 ++ c.args.map a.eval ++ c1).toList) hF hS (fun i => by
     rcases hns with h0 | ⟨h0, h1⟩
     · exact .inr (by omega)
     · rcases Nat.lt_or_ge i 1 with h | h
       · obtain rfl : i = 0 := by omega
         exact .inl (hnn dn hd h1)
       · exact .inr (by omega)) hC2 (by simp [n1, n2, l1]) (fun i y v hy hv => by
     simp only [Array.toList_append, List.append_assoc] at hv
     rw [List.append_assoc] at hy
     rcases Nat.lt_or_ge i first.length with h | h
     · rw [List.getElem?_append_left (by simpa using h)] at hy
       rw [List.getElem?_append_left (by simp [n1]; exact h)] at hv
       rw [List.getElem?_map, Option.map_eq_some_iff] at hy
       obtain ⟨x, hx, rfl⟩ := hy
       exact .c (r1 i x v hx (by simpa using hv))
     · rw [List.getElem?_append_right (by simpa using h)] at hy
       rw [List.getElem?_append_right (by simp [n1]; exact h)] at hv
       simp only [List.length_map, Array.length_toList, n1] at hy hv
       rcases Nat.lt_or_ge (i - first.length) c.args.toList.length with h' | h'
       · rw [List.getElem?_append_left (by rw [l1]; exact h')] at hy
         rw [List.getElem?_append_left (by simpa using h')] at hv
         exact l2 _ y v hy (by simpa using hv)
       · rw [List.getElem?_append_right (by rw [l1]; exact h')] at hy
         rw [List.getElem?_append_right (by simpa using h')] at hv
         rw [List.getElem?_map, Option.map_eq_some_iff] at hy
         obtain ⟨x, hx, rfl⟩ := hy
         refine .c (r2 _ x v hx ?_)
         simp only [l1] at hx
         simpa [l1] using hv)
   rw [Array.toArray_toList] at hcore
   refine hcore.mono fun e w' hq => ?_
   obtain ⟨v, rfl, β', F', hv', hβ', hS'⟩ := hq
   rw [eaf] at hS'
   refine hK _ _ β' F' ?_ fun k hk => hβ' k fun hm => fndB_mem hk (by rw [hfst]; exact List.mem_append_right _ hm)
   rw [hd]
   exact hS'.put hv' (dstOk_lt (by rw [hn, ← hd]; exact hE0))
 · have hm : j ∈ ks ++ newKeys (some dn) news.length := by
     rw [← hfst]
     exact Classical.not_not.1 fun h => hj (fndB_no h)
   exact List.all_eq_true.1 hown j hm
theorem dcn1 {ns b own : List Nat} {bs : List (List Nat × List Nat)} {l : List Oper} {K : St → Prop} {c : Call} {fo : Operand} {f : FuncId} {first cap : List Cell} {pf : List Prop} {xs : List Av} {bor bor' : List Blk} {news : List Blk} {res : Av} {nt dn : Nat} (ks : List Nat) (hn : E.n = nt) (hF : Ct P f xs bor res bor' news)
   (hk : DrawU P E ops ns bs l ((afterCall σ ks (some dn) bor' news).put (some dn) (res.ren (crho ks (some dn) news.length))) K) (hop : o.op = .call c := by exact rfl) (hg : o.guard = none := by exact rfl) (hd : o.dst = some dn := by exact rfl) (hE0 : dstOk nt o.dst = true := by exact rfl)
   (hcv : c.callee = .value fo := by exact rfl) (hfo : ox ⟨σ.tm, fgt b σ.hp⟩ fo = (pf, .c (.fn (.func f) first cap)) := by exact rfl)
   (h1 : first.map Av.c ++ (oxs ⟨σ.tm, fgt b σ.hp⟩ c.args.toList).2 ++ cap.map Av.c = xs.map (Av.ren (crho ks (some dn) news.length)) := by exact rfl)
   (h2 : AllP ((ordL 0 bor).map fun p => (St.mk σ.tm (fgt b σ.hp)).hp (ks.getD p.1 0) = p.2.ren (crho ks (some dn) news.length)) := by first | trivial | exact rfl | exact ⟨rfl, rfl⟩ | exact ⟨rfl, rfl, rfl⟩)
   (h3 : AllP ((ordL 0 bor).map fun p => p.2 ≠ .gone) := by first | trivial | (simp [ordL]; done) | fail)
   (h4 : (xs.all (Av.ok ks.length) && bor.all (Blk.ok ks.length) && res.ok (ks.length + news.length) && bor'.all (Blk.ok (ks.length + news.length)) && news.all (Blk.ok (ks.length + news.length)) && Nat.beq ks.length bor.length && decide (ks ++ newKeys (some dn) news.length).Nodup) = true := by exact rfl)
   (hp : AllP (pf ++ (oxs ⟨σ.tm, fgt b σ.hp⟩ c.args.toList).1) := by exact vcs) (hlen : ks.length = bor'.length := by exact rfl) (hns : news.length = 0 ∨ (news.length = 1 ∧ memB (nk (some dn) 0) ns = true) := by first | exact .inl rfl | exact .inr ⟨rfl, rfl⟩) (hown : (ks ++ newKeys (some dn) news.length).all (fun k => memB k own) = true := by exact rfl) : DrawU P E ops ns ((b, own) :: bs) (o :: l) σ K :=
 DU_cn ks hn hF hop hg hd hE0 hcv hfo ⟨h1, h2, h3, h4⟩ hp hlen hns hown hk
theorem du3E {Q : Exit → Act → World → Prop} {id : Nat} {l : List Oper} {bs : List (List Nat × List Nat)} (ns : List Nat) (ws : List (Nat × Nat)) (h : DrawU P E l.toArray ns bs l (σ.kills ns) (fun τ => WL P E l.toArray Q [] τ)) (hm : P.follows .mixedOrders = true := by kernel_rfl)
   (hbs : forceB (badsU l.toArray ws 0 l) some = some bs := by exact rfl) (hB : drawU l.toArray l ns ws = true := by kernel_rfl) (h64 : ns.all (Nat.ble 64) = true := by exact rfl) : W P E (.region id l.toArray true) Q σ := W_drawU ns ws hm hB hbs h64 h
end
end Go.Sx

namespace Go.Proofs.YtohfhephkjihfaaGreat
set_option linter.unusedSimpArgs false
set_option linter.unusedVariables false
open Go Go.Sx
set_option maxRecDepth 10000
def SortedSays (P : Program) (fs fk kt : Nat) : Prop :=
 ∀ (Bm b nn : Nat) (D0 : DataW Unit) (R : Value → Option (DataW Unit × List MemPlace)) (w : World), Bm < w.heap.size → w.cell? ⟨Bm, 0, none⟩ = some (.map (some b)) → w.ownsMap P kt R b nn D0 → Go.Maps.size D0 ≤ maxLen → Go.Maps.size D0 * 16 ≤ 140737488355328 →
   Calls P fs #[.func (.func fk) #[] #[.pointer (some ⟨Bm, 0, none⟩)]] w fun e w' => ∃ (v : Value) (ss : List (List UInt8)), e = .returned v ∧ ss.Perm (strKeys D0) ∧
     w'.ownsRow w.heap.size kt 1 v ss.length ((ss.mergeSort (fun x y => decide (x ≤ y))).map Go.Proofs.encStr) ∧ (v = .slice none 0 0 ↔ ss = []) ∧ Go.RowKit.Below w.heap.size w w'
def R0 : Value → Option (DataW Unit × List MemPlace) := fun _ => some (.lit (.bool false), [])
theorem BlkR_wide {β : Nat → Option Nat} {F F2 : Nat → Prop} {w : World} {i : Nat} (hF : ∀ b, F b → F2 b) {b : Blk} (hx : BlkR β F w i b) : BlkR β F2 w i b := by
 cases b with
 | gone => trivial
 | map es =>
   obtain ⟨g, ms, ck, e1, e2, e3, e4⟩ := hx
   exact ⟨g, ms, ck, e1, e2, e3, fun i k x hx => let ⟨e, q1, q2, q3⟩ := e4 i k x hx; ⟨e, q1, q2, q3.mono fun b hb => ⟨hF b hb, rfl⟩⟩⟩
 | raw g ob =>
   exact hx
 | mapS g ms ck es =>
   obtain ⟨e1, e2, e3, e4⟩ := hx
   exact ⟨e1, e2, e3, fun i k x hx => let ⟨e, q1, q2, q3⟩ := e4 i k x hx; ⟨e, q1, q2, q3.mono fun b hb => ⟨hF b hb, rfl⟩⟩⟩
 | cells cs =>
   obtain ⟨g, cur, hg, hr, hsz, hc⟩ := hx
   exact ⟨g, cur, hg, hr, hsz, fun k x v hx hv => (hc k x v hx hv).mono (fun _ _ h => h) (fun b hb => ⟨hF b hb, rfl⟩) (fun _ _ h => h)⟩
 | row dd =>
   cases dd with
   | ints k l => exact hx
   | recs sz l =>
     refine ⟨hx.1, ?_⟩
     rcases hx.2 with h | ⟨g, cur, hg, hr, hc⟩
     · exact .inl h
     · refine .inr ⟨g, cur, hg, hr, fun i r k x hi hk => ?_⟩
       obtain ⟨u, hu, hl⟩ := hc i r k x hi hk
       exact ⟨u, hu, hl.mono fun b hb => ⟨hF b hb, rfl⟩⟩
   | v => exact hx
   | obj => exact hx
end Go.Proofs.YtohfhephkjihfaaGreat

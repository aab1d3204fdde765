/-
  Chapter 17: the next extension at a cursor, kept or not. The conditions: rows of at most a million bytes.
-/
import Derived.Test.YtaagjnlkinojcaaE6
import Derived.Test.YtaagjnlkinojcaaSxI
import Derived.Test.YtaagjnlkinojcaaSxQ
namespace Go.Proofs.Ytaagjnlkinojcaa
set_option linter.unusedSimpArgs false
set_option linter.unusedVariables false
open Go.Sx
set_option maxRecDepth 10000
def isH (l : List Int) (p : Nat) (t : TagP) : Bool := decide ((readP l p).2.2 = 0) && decide ((readP l p).1.1 = t)
theorem hdis_ok (l : List Int) (p : Nat) (t : TagP) (hp : p ≤ l.length) (hl : l.length ≤ 1000000) (hw : WfB l) : Ct Try.prog 67 [.c (.ptr 0 0), tagA t] [curB l p] (lv (.bool (isH l p t))) [curB l p] [] := by
 have hat := at_ok l p
 have hrd := read_ok l p hp hl hw
 have hle := readP_le l p hp
 unfold isH
 generalize readP l p = R at *
 obtain ⟨⟨u, n⟩, q, e⟩ := R
 dsimp only at *
 have hbk := back_ok l q p hle.1 (by omega)
 obtain ⟨u1, u2, u3⟩ := u
 obtain ⟨t1, t2, t3⟩ := t
 by_cases he : e = 0
 · subst he
   obtain ⟨B, hB⟩ : ∃ B, (decide ((0 : Int) = 0) && decide ((u1, u2, u3) = (t1, t2, t3))) = B := ⟨_, rfl⟩
   rw [hB]
   refine Ct_intro Try.func67 rfl rfl rfl rfl rfl (fun E hn hb => ?_)
   repeat refine nx ?_
   refine rt2 [] ?_ ?_
   · refine congrArg (fun x => lv (.bool x)) ?_
     rw [← hB]
     simp [eqCs, Cell.kill, Cell.kill1, Bool.and_assoc]
     try rfl
   · trivial
 · rw [decide_eq_false he]
   refine Ct_intro Try.func67 rfl rfl rfl rfl rfl (fun E hn hb => ?_)
   repeat refine nx ?_
   refine rt2 [] ?_ ?_
   · refine congrArg (fun x => lv (.bool x)) ?_
     simp [he]
   · trivial
theorem pbool_ok (x : List Int) (hl : x.length ≤ 1000000) : Ct Try.prog 85 [B8 x] [] (.tup [lv (.bool (decide (x = [255]))), lv (.int .i64 (if x = [0] ∨ x = [255] then 0 else 6))]) [] [] := by
 match x with
 | [] =>
   refine Ct_intro Try.func85 rfl rfl rfl rfl rfl (fun E hn hb => ?_)
   repeat refine nx ?_
   exact rt1 []
 | [u] =>
   by_cases h0 : u = 0
   · subst h0
     refine Ct_intro Try.func85 rfl rfl rfl rfl rfl (fun E hn hb => ?_)
     repeat refine nx ?_
     exact rt1 []
   · by_cases h1 : u = 255
     · subst h1
       refine Ct_intro Try.func85 rfl rfl rfl rfl rfl (fun E hn hb => ?_)
       repeat refine nx ?_
       exact rt1 []
     · rw [if_neg (by simp [h0, h1]), decide_eq_false (by simp [h1])]
       refine Ct_intro Try.func85 rfl rfl rfl rfl rfl (fun E hn hb => ?_)
       repeat refine nx ?_
       exact rt1 []
 | u :: v :: t =>
   rw [if_neg (by simp), decide_eq_false (by simp)]
   refine Ct_intro Try.func85 rfl rfl rfl rfl rfl (fun E hn hb => ?_)
   repeat refine nx ?_
   exact rt1 []
def boolR (l : List Int) (p : Nat) : Bool × Nat × Int :=
 let r := openP l p (ofT 1)
 if r.2.2 = 0 then (if r.1 = [0] ∨ r.1 = [255] then (decide (r.1 = [255]), r.2.1, 0) else (false, p, 6)) else (false, p, r.2.2)
theorem boolR_le (l : List Int) (p : Nat) (hp : p ≤ l.length) : p ≤ (boolR l p).2.1 ∧ (boolR l p).2.1 ≤ l.length := by
 have h := openP_le l p (ofT 1) hp
 unfold boolR
 dsimp only
 split
 · split
   · exact h
   · exact ⟨Nat.le_refl _, hp⟩
 · exact ⟨Nat.le_refl _, hp⟩
theorem rbool0_ok (l : List Int) (p : Nat) (hp : p ≤ l.length) (hl : l.length ≤ 1000000) (hw : WfB l) : Ct Try.prog 84 [.c (.ptr 0 0), lv (.int .i64 1), .c (.fn (.func 85) [] [])] [curB l p] (.tup [lv (.bool (boolR l p).1), lv (.int .i64 (boolR l p).2.2)]) [curB l (boolR l p).2.1] [] := by
 have hat := at_ok l p
 have hho := headof_ok 1
 have hop := open_ok l p (ofT 1) hp hl hw
 have hoe := open_err l p (ofT 1) hp hl hw
 have hle := openP_le l p (ofT 1) hp
 have hmem := openP_mem l p (ofT 1)
 unfold boolR
 generalize openP l p (ofT 1) = X at *
 obtain ⟨x, q, e⟩ := X
 dsimp only at *
 by_cases he : e = 0
 · subst he
   have hop := hop rfl
   rw [if_pos rfl]
   have hre := rest_ok x 0 (Nat.zero_le _) (by omega)
   rw [List.drop_zero] at hre
   have hpa := pbool_ok x (by omega)
   have hbk := back_ok l q p hle.1 (by omega)
   by_cases hs : x = [0] ∨ x = [255]
   · rw [if_pos hs] at hpa ⊢
     generalize decide (x = [255]) = b at *
     refine Ct_intro Try.func84 rfl rfl rfl rfl rfl (fun E hn hb => ?_)
     repeat refine nx ?_
     exact rt1 []
   · rw [if_neg hs] at hpa ⊢
     rw [decide_eq_false fun h => hs (.inr h)] at hpa
     refine Ct_intro Try.func84 rfl rfl rfl rfl rfl (fun E hn hb => ?_)
     repeat refine nx ?_
     exact rt1 []
 · have hoe := hoe he
   rw [if_neg he]
   refine Ct_intro Try.func84 rfl rfl rfl rfl rfl (fun E hn hb => ?_)
   repeat refine nx ?_
   exact rt1 []
theorem rbool_ok (l : List Int) (p : Nat) (hp : p ≤ l.length) (hl : l.length ≤ 1000000) (hw : WfB l) : Ct Try.prog 68 [.c (.ptr 0 0)] [curB l p] (.tup [lv (.bool (boolR l p).1), lv (.int .i64 (boolR l p).2.2)]) [curB l (boolR l p).2.1] [] := by
 have h := rbool0_ok l p hp hl hw
 refine Ct_intro Try.func68 rfl rfl rfl rfl rfl (fun E hn hb => ?_)
 repeat refine nx ?_
 exact rt1 []
theorem octs_ok (x : List Int) : Ct Try.prog 70 [B8 x] [] (.tup [B8 x, lv (.int .i64 0)]) [] [] := by
 refine Ct_intro Try.func70 rfl rfl rfl rfl rfl (fun E hn hb => ?_)
 repeat refine nx ?_
 exact rt1 []
theorem roct0_ok (l : List Int) (p : Nat) (hp : p ≤ l.length) (hl : l.length ≤ 1000000) (hw : WfB l) : Ct Try.prog 69 [.c (.ptr 0 0), lv (.int .i64 4), .c (.fn (.func 70) [] [])] [curB l p] (.tup [B8 (openP l p (ofT 4)).1, lv (.int .i64 (openP l p (ofT 4)).2.2)]) [curB l (openP l p (ofT 4)).2.1] [] := by
 have hat := at_ok l p
 have hho := headof_ok 4
 have hop := open_ok l p (ofT 4) hp hl hw
 have hoe := open_err l p (ofT 4) hp hl hw
 have hle := openP_le l p (ofT 4) hp
 have hmem := openP_mem l p (ofT 4)
 have hke : ¬ (openP l p (ofT 4)).2.2 = 0 → (openP l p (ofT 4)).1 = [] ∧ (openP l p (ofT 4)).2.1 = p := fun h => by
   unfold openP keepP at h ⊢
   by_cases h2 : (rawO l p (ofT 4)).2.2 = 0
   · rw [if_pos h2] at h; exact absurd h2 h
   · rw [if_neg h2]; exact ⟨rfl, rfl⟩
 generalize openP l p (ofT 4) = X at *
 obtain ⟨x, q, e⟩ := X
 dsimp only at *
 by_cases he : e = 0
 · subst he
   have hop := hop rfl
   have hre := rest_ok x 0 (Nat.zero_le _) (by omega)
   rw [List.drop_zero] at hre
   have hpa := octs_ok x
   refine Ct_intro Try.func69 rfl rfl rfl rfl rfl (fun E hn hb => ?_)
   repeat refine nx ?_
   exact rt1 []
 · have hoe := hoe he
   obtain ⟨rfl, rfl⟩ := hke he
   refine Ct_intro Try.func69 rfl rfl rfl rfl rfl (fun E hn hb => ?_)
   repeat refine nx ?_
   exact rtU []
theorem roct_ok (l : List Int) (p : Nat) (hp : p ≤ l.length) (hl : l.length ≤ 1000000) (hw : WfB l) : Ct Try.prog 51 [.c (.ptr 0 0)] [curB l p] (.tup [B8 (openP l p (ofT 4)).1, lv (.int .i64 (openP l p (ofT 4)).2.2)]) [curB l (openP l p (ofT 4)).2.1] [] := by
 have h := roct0_ok l p hp hl hw
 refine Ct_intro Try.func51 rfl rfl rfl rfl rfl (fun E hn hb => ?_)
 repeat refine nx ?_
 exact rt1 []
def critR (l : List Int) (p : Nat) : Bool × Nat × Int :=
 if isH l p (ofT 1) = true then (let r := boolR l p; (r.1, r.2.1, if r.2.2 = 0 ∧ r.1 = false then 6 else r.2.2)) else (false, p, 0)
theorem critR_le (l : List Int) (p : Nat) (hp : p ≤ l.length) : p ≤ (critR l p).2.1 ∧ (critR l p).2.1 ≤ l.length := by
 have h := boolR_le l p hp
 unfold critR
 dsimp only
 split
 · exact h
 · exact ⟨Nat.le_refl _, hp⟩
theorem crit_ok (l : List Int) (p : Nat) (hp : p ≤ l.length) (hl : l.length ≤ 1000000) (hw : WfB l) : Ct Try.prog 50 [.c (.ptr 0 0)] [curB l p] (.tup [lv (.bool (critR l p).1), lv (.int .i64 (critR l p).2.2)]) [curB l (critR l p).2.1] [] := by
 have hho := headof_ok 1
 have his := hdis_ok l p (ofT 1) hp hl hw
 have hb := rbool_ok l p hp hl hw
 have hb' := hb
 clear hb
 unfold critR
 cases hi : isH l p (ofT 1) with
 | false =>
   rw [hi] at his
   rw [if_neg (by simp)]
   refine Ct_intro Try.func50 rfl rfl rfl rfl rfl (fun E hn hb => ?_)
   repeat refine nx ?_
   exact rt1 []
 | true =>
   rw [hi] at his
   rw [if_pos rfl]
   generalize boolR l p = R at *
   obtain ⟨b, q, e⟩ := R
   dsimp only at *
   by_cases he : e = 0
   · subst he
     cases b with
     | false =>
       rw [if_pos ⟨rfl, rfl⟩]
       refine Ct_intro Try.func50 rfl rfl rfl rfl rfl (fun E hn hb => ?_)
       repeat refine nx ?_
       exact rt1 []
     | true =>
       rw [if_neg (by simp)]
       refine Ct_intro Try.func50 rfl rfl rfl rfl rfl (fun E hn hb => ?_)
       repeat refine nx ?_
       exact rt1 []
   · rw [if_neg (fun h => he h.1)]
     refine Ct_intro Try.func50 rfl rfl rfl rfl rfl (fun E hn hb => ?_)
     repeat refine nx ?_
     exact rt1 []
end Go.Proofs.Ytaagjnlkinojcaa

namespace Go.Sx
open Go
set_option linter.unusedVariables false
set_option linter.unusedSimpArgs false
theorem allP_ofE {α : Type} {f : α → Prop} : ∀ {l : List α}, (∀ p, p ∈ l → f p) → AllP (l.map f)
 | [], _ => trivial
 | [p], h => h p (List.mem_singleton.2 rfl)
 | p :: q :: l, h => ⟨h p (List.mem_cons_self ..), allP_ofE (l := q :: l) fun r hr => h r (List.mem_cons_of_mem _ hr)⟩
theorem ordL_memE {α : Type} : ∀ (l : List α) (n : Nat) (p : Nat × α), p ∈ ordL n l → ∃ i : Nat, p.1 = n + i ∧ l[i]? = some p.2
 | [], n, p, h => by cases h
 | y :: l, n, p, h => by
   rcases List.mem_cons.1 h with rfl | h
   · exact ⟨0, rfl, rfl⟩
   · obtain ⟨i, h1, h2⟩ := ordL_memE l (n + 1) p h
     exact ⟨i + 1, by omega, h2⟩
theorem fndB_no : ∀ {l : List (Nat × Blk)} {k : Nat}, k ∉ l.map (·.1) → fndB l k = none
 | [], k, _ => rfl
 | (j, b) :: l, k, h => by
   simp only [List.map_cons, List.mem_cons, not_or] at h
   simp only [fndB, show Nat.beq k j = false from Bool.eq_false_iff.2 fun e => h.1 (Nat.eq_of_beq_eq_true e)]
   exact fndB_no h.2
theorem fndB_mem : ∀ {l : List (Nat × Blk)} {k : Nat}, fndB l k = none → k ∉ l.map (·.1)
 | [], k, _ => by simp
 | (j, b) :: l, k, h => by
   simp only [fndB] at h
   cases hb : Nat.beq k j with
   | true => rw [hb] at h; cases h
   | false =>
     rw [hb] at h
     simp only [List.map_cons, List.mem_cons, not_or]
     exact ⟨fun e => (by rw [e, Nat.beq_refl] at hb; cases hb), fndB_mem h⟩
theorem sets_upd : ∀ (l : List (Nat × Blk)) (σ : St), (l.map (·.1)).Nodup → σ.sets l = ⟨σ.tm, updB σ.hp l⟩
 | [], σ, _ => rfl
 | (j, b) :: l, σ, h => by
   simp only [List.map_cons, List.nodup_cons] at h
   show (σ.seth j b).sets l = _
   rw [sets_upd l _ h.2]
   refine congrArg (St.mk σ.tm) ?_
   funext i
   rw [updB_eq, updB_eq]
   simp only [fndB]
   cases hb : Nat.beq i j with
   | true =>
     rw [Nat.eq_of_beq_eq_true hb, fndB_no h.1]
     simp [St.seth]
   | false =>
     have : i ≠ j := fun e => by rw [e, Nat.beq_refl] at hb; cases hb
     dsimp only
     cases fndB l i <;> simp [St.seth, this]
theorem sets_app : ∀ (l m : List (Nat × Blk)) (σ : St), (σ.sets l).sets m = σ.sets (l ++ m)
 | [], m, σ => rfl
 | (j, b) :: l, m, σ => sets_app l m (σ.seth j b)
section
variable {P : Program} {E : Env} {ops : Array Oper} {o : Oper} {σ : St}
theorem lenNK (d : Option Nat) : ∀ n, (newKeys d n).length = n := by intro n; induction n with
 | zero => rfl
 | succ n ih => simp [newKeys, ih]
theorem DU_cn {ns b own : List Nat} {bs : List (List Nat × List Nat)} {l : List Oper} {K : St → Prop} {c : Call} {fo : Operand} {f : FuncId} {first cap : List Cell} {pf : List Prop} {xs : List Av} {bor bor' : List Blk} {news : List Blk} {res : Av} {nt dn : Nat} (ks : List Nat) (hn : E.n = nt) (hF : Ct P f xs bor res bor' news) (hop : o.op = .call c) (hg : o.guard = none) (hd : o.dst = some dn) (hE0 : dstOk nt o.dst = true)
   (hcv : c.callee = .value fo) (hfo : ox ⟨σ.tm, fgt b σ.hp⟩ fo = (pf, .c (.fn (.func f) first cap))) (hC : CallOk ⟨σ.tm, fgt b σ.hp⟩ (first.map Av.c ++ (oxs ⟨σ.tm, fgt b σ.hp⟩ c.args.toList).2 ++ cap.map Av.c) xs bor res bor' news ks (some dn))
   (hp : AllP (pf ++ (oxs ⟨σ.tm, fgt b σ.hp⟩ c.args.toList).1)) (hlen : ks.length = bor'.length) (hns : news.length = 0 ∨ (news.length = 1 ∧ memB (nk (some dn) 0) ns = true)) (hown : (ks ++ newKeys (some dn) news.length).all (fun k => memB k own) = true)
   (hk : DrawU P E ops ns bs l ((afterCall σ ks (some dn) bor' news).put (some dn) (res.ren (crho ks (some dn) news.length))) K) : DrawU P E ops ns ((b, own) :: bs) (o :: l) σ K := by
 have hnd : (ks ++ newKeys (some dn) news.length).Nodup := by
   have := hC.cok
   simp only [Bool.and_eq_true] at this
   simpa using this.2
 obtain ⟨u, hu⟩ : ∃ u, zipB ks (bor'.map (Blk.ren (crho ks (some dn) news.length))) ++ zipB (newKeys (some dn) news.length) (news.map (Blk.ren (crho ks (some dn) news.length))) = u := ⟨_, rfl⟩
 have hfst : u.map (·.1) = ks ++ newKeys (some dn) news.length := by
   rw [← hu, List.map_append, zipB_fst _ _ (by simpa using hlen), zipB_fst _ _ (by simp [lenNK])]
 have eaf : ∀ τ : St, afterCall τ ks (some dn) bor' news = ⟨τ.tm, updB τ.hp u⟩ := fun τ => by
   unfold afterCall
   rw [sets_app, hu]
   exact sets_upd u τ (by rw [hfst]; exact hnd)
 rw [eaf] at hk
 refine DU_stepG (x := res.ren (crho ks (some dn) news.length)) (u := u) ?_ (fun j hj => ?_) (by rw [hd]; exact hk)
 · intro τ hl β F a w hS hnn KK Q hK
   rw [show Region.wanted o (yielded ops a.tmps) = true by simp [Region.wanted, hg], if_pos rfl]
   have hcut : SRb E β F ⟨τ.tm, fgt b σ.hp⟩ a w := hS.cut hl
   have x1 : ox ⟨τ.tm, fgt b σ.hp⟩ fo = ox ⟨σ.tm, fgt b σ.hp⟩ fo := hl.ox fo (by rw [hop]; simp [Op.operands, Call.operands, hcv])
   have x2 : oxs ⟨τ.tm, fgt b σ.hp⟩ c.args.toList = oxs ⟨σ.tm, fgt b σ.hp⟩ c.args.toList := oxs_like (o := o) (τ := ⟨τ.tm, fgt b σ.hp⟩) (σ := ⟨σ.tm, fgt b σ.hp⟩) (fun y hy => hl.ox y hy) _ fun y hy => by
     rw [hop]; simp only [Op.operands, Call.operands]; simp at hy ⊢; first | exact .inr hy | exact .inl hy | simp [hy]
   have hfv := oxR hcut fo
   rw [x1, hfo] at hfv
   have hfv := hfv hp.left
   generalize hv : a.eval fo = fv at hfv
   cases hfv with | c hfv => cases hfv with | fn _ _ _ f1 c1 n1 n2 r1 r2 =>
   obtain ⟨l1, l2⟩ := oxs_R hcut c.args.toList (by rw [x2]; exact hp.right)
   rw [x2] at l1 l2
   have hrun : (execOp a.eval o).run P w = .ok (.enter f (f1 ++ c.args.map a.eval ++ c1)) w := by
     simp only [execOp, hop, resolve, hcv, hv, Deferred.ofValue, Sem.run_bind, Sem.run_pure, Result.andThen_ok, invoke]
     exact run_callFunc hF.2.1
   unfold Oper.wp
   rw [hrun, Oper.upon_enter]
   have hbor : ∀ i blk, bor[i]? = some blk → τ.hp (ks.getD i 0) = blk.ren (crho ks (some dn) news.length) := fun i blk hi => by
     have h1 := allP_map hC.cbor _ (mem_ordL bor 0 i blk hi)
     have h2 := allP_map hC.cgone _ (mem_ordL bor 0 i blk hi)
     have h1 : fgt b σ.hp (ks.getD i 0) = blk.ren (crho ks (some dn) news.length) := by simpa using h1
     have h2 : blk ≠ .gone := by simpa using h2
     rw [fgt_eq] at h1
     cases hb : memB (ks.getD i 0) b with
     | true =>
       rw [hb] at h1
       exact absurd h1.symm (Blk.ren_ne h2)
     | false =>
       rw [hb] at h1
       rw [hl.hp _ hb]
       exact h1
   have hC2 : CallOk τ (first.map Av.c ++ (oxs ⟨σ.tm, fgt b σ.hp⟩ c.args.toList).2 ++ cap.map Av.c) xs bor res bor' news ks (some dn) := ⟨hC.cargs, allP_ofE fun p hp => by
     obtain ⟨i, blk⟩ := p
     obtain ⟨k, hk1, hk2⟩ := ordL_memE bor 0 _ hp
     dsimp only at hk1 ⊢
     have := hbor k blk hk2
     rw [hk1, Nat.zero_add]
     exact this, hC.cgone, hC.cok⟩
   have hcore := call_coreB (σ := τ) (bs := ks) (d := some dn) (vs := (f1 ++ c.args.map a.eval ++ c1).toList) hF hS (fun i => by
     rcases hns with h0 | ⟨h0, h1⟩
     · exact .inr (by omega)
     · rcases Nat.lt_or_ge i 1 with h | h
       · obtain rfl : i = 0 := by omega
         exact .inl (hnn dn hd h1)
       · exact .inr (by omega)) hC2 (by simp [n1, n2, l1]) (fun i y v hy hv => by
     simp only [Array.toList_append, List.append_assoc] at hv
     rw [List.append_assoc] at hy
     rcases Nat.lt_or_ge i first.length with h | h
     · rw [List.getElem?_append_left (by simpa using h)] at hy
       rw [List.getElem?_append_left (by simp [n1]; exact h)] at hv
       rw [List.getElem?_map, Option.map_eq_some_iff] at hy
       obtain ⟨x, hx, rfl⟩ := hy
       exact .c (r1 i x v hx (by simpa using hv))
     · rw [List.getElem?_append_right (by simpa using h)] at hy
       rw [List.getElem?_append_right (by simp [n1]; exact h)] at hv
       simp only [List.length_map, Array.length_toList, n1] at hy hv
       rcases Nat.lt_or_ge (i - first.length) c.args.toList.length with h' | h'
       · rw [List.getElem?_append_left (by rw [l1]; exact h')] at hy
         rw [List.getElem?_append_left (by simpa using h')] at hv
         exact l2 _ y v hy (by simpa using hv)
       · rw [List.getElem?_append_right (by rw [l1]; exact h')] at hy
         rw [List.getElem?_append_right (by simpa using h')] at hv
         rw [List.getElem?_map, Option.map_eq_some_iff] at hy
         obtain ⟨x, hx, rfl⟩ := hy
         refine .c (r2 _ x v hx ?_)
         simp only [l1] at hx
         simpa [l1] using hv)
   rw [Array.toArray_toList] at hcore
   refine hcore.mono fun e w' hq => ?_
   obtain ⟨v, rfl, β', F', hv', hβ', hS'⟩ := hq
   rw [eaf] at hS'
   refine hK _ _ β' F' ?_ fun k hk => hβ' k fun hm => fndB_mem hk (by rw [hfst]; exact List.mem_append_right _ hm)
   rw [hd]
   exact hS'.put hv' (dstOk_lt (by rw [hn, ← hd]; exact hE0))
 · have hm : j ∈ ks ++ newKeys (some dn) news.length := by
     rw [← hfst]
     exact Classical.not_not.1 fun h => hj (fndB_no h)
   exact List.all_eq_true.1 hown j hm
theorem dcn1 {ns b own : List Nat} {bs : List (List Nat × List Nat)} {l : List Oper} {K : St → Prop} {c : Call} {fo : Operand} {f : FuncId} {first cap : List Cell} {pf : List Prop} {xs : List Av} {bor bor' : List Blk} {news : List Blk} {res : Av} {nt dn : Nat} (ks : List Nat) (hn : E.n = nt) (hF : Ct P f xs bor res bor' news)
   (hk : DrawU P E ops ns bs l ((afterCall σ ks (some dn) bor' news).put (some dn) (res.ren (crho ks (some dn) news.length))) K) (hop : o.op = .call c := by exact rfl) (hg : o.guard = none := by exact rfl) (hd : o.dst = some dn := by exact rfl) (hE0 : dstOk nt o.dst = true := by exact rfl)
   (hcv : c.callee = .value fo := by exact rfl) (hfo : ox ⟨σ.tm, fgt b σ.hp⟩ fo = (pf, .c (.fn (.func f) first cap)) := by exact rfl)
   (h1 : first.map Av.c ++ (oxs ⟨σ.tm, fgt b σ.hp⟩ c.args.toList).2 ++ cap.map Av.c = xs.map (Av.ren (crho ks (some dn) news.length)) := by exact rfl)
   (h2 : AllP ((ordL 0 bor).map fun p => (St.mk σ.tm (fgt b σ.hp)).hp (ks.getD p.1 0) = p.2.ren (crho ks (some dn) news.length)) := by first | trivial | exact rfl | exact ⟨rfl, rfl⟩ | exact ⟨rfl, rfl, rfl⟩)
   (h3 : AllP ((ordL 0 bor).map fun p => p.2 ≠ .gone) := by first | trivial | (simp [ordL]; done) | fail)
   (h4 : (xs.all (Av.ok ks.length) && bor.all (Blk.ok ks.length) && res.ok (ks.length + news.length) && bor'.all (Blk.ok (ks.length + news.length)) && news.all (Blk.ok (ks.length + news.length)) && Nat.beq ks.length bor.length && decide (ks ++ newKeys (some dn) news.length).Nodup) = true := by exact rfl)
   (hp : AllP (pf ++ (oxs ⟨σ.tm, fgt b σ.hp⟩ c.args.toList).1) := by exact vcs) (hlen : ks.length = bor'.length := by exact rfl) (hns : news.length = 0 ∨ (news.length = 1 ∧ memB (nk (some dn) 0) ns = true) := by first | exact .inl rfl | exact .inr ⟨rfl, rfl⟩) (hown : (ks ++ newKeys (some dn) news.length).all (fun k => memB k own) = true := by exact rfl) : DrawU P E ops ns ((b, own) :: bs) (o :: l) σ K :=
 DU_cn ks hn hF hop hg hd hE0 hcv hfo ⟨h1, h2, h3, h4⟩ hp hlen hns hown hk
theorem du3E {Q : Exit → Act → World → Prop} {id : Nat} {l : List Oper} {bs : List (List Nat × List Nat)} (ns : List Nat) (ws : List (Nat × Nat)) (h : DrawU P E l.toArray ns bs l (σ.kills ns) (fun τ => WL P E l.toArray Q [] τ)) (hm : P.follows .mixedOrders = true := by kernel_rfl)
   (hbs : forceB (badsU l.toArray ws 0 l) some = some bs := by exact rfl) (hB : drawU l.toArray l ns ws = true := by kernel_rfl) (h64 : ns.all (Nat.ble 64) = true := by exact rfl) : W P E (.region id l.toArray true) Q σ := W_drawU ns ws hm hB hbs h64 h
theorem dlgE {ns b own : List Nat} {bs : List (List Nat × List Nat)} {l : List Oper} {K : St → Prop} {t e : TypeId} {sz by_ n s nt : Nat} {parts : Array (Nat × Operand)} {ps : List Prop} {out : List Cell} {d : Leaf} {dd : Option Nat} {i : Nat} {g G : Bool} (hn : E.n = nt) (hk : DrawU P E ops ns bs l (σ.put dd (.cnd G (.c (.lf d)))) K) (hop : o.op = .buildSlice t n parts := by exact rfl) (hg : o.guard = some (i, g) := by exact rfl) (hG : guardC ops ⟨σ.tm, fgt b σ.hp⟩ i g = some G := by exact rfl) (hdf : forceO o.dst some = some dd := by exact rfl) (hd : dstOk nt dd = true := by exact rfl)
   (hE : Elt P t e sz by_ := by exact elt_mk rfl rfl rfl) (hs : forceSz sz some = some s := by exact rfl) (hf : fillA (fun i => some (i * s, s)) (List.replicate (n * s) .un) (parts.toList.map fun (i, x) => (i, ox ⟨σ.tm, fgt b σ.hp⟩ x)) = some (ps, out) := by exact rfl) (hdd : forceDat (dataOf P e s n out) some = some d := by exact rfl) (hnn : n * s ≤ 16777216 ∧ n ≤ 16777216 ∧ lenD d = n ∧ szD d = s := by exact ⟨by decide, by decide, rfl, rfl⟩)
   (hz : zeroOk P e := by first | (simp; done) | fail) (hp : G = true → AllP ps := by intro hG; first | trivial | exact hG | exact ⟨hG, trivial⟩ | exact ⟨hG, hG⟩ | (simp; done) | (simp at *; done)) : DrawU P E ops ns ((b, own) :: bs) (o :: l) σ K := by
 obtain rfl := forceSz_some hs
 exact DU_op hdf (by rw [hn]; exact hd) (ops_ofG hg hG fun hh => opys_lit hop hE hz hf (hp hh) (forceDat_some hdd) hnn) hk
theorem dwF {ns b own : List Nat} {bs : List (List Nat × List Nat)} {l : List Oper} {K : St → Prop} {nt : Nat} {dd : Option Nat} {i : Nat} {g G : Bool} (x : Av) (hn : E.n = nt) (hk : DrawU P E ops ns bs l (σ.put dd (.cnd false x)) K) (hg : o.guard = some (i, g) := by exact rfl) (hG : guardC ops ⟨σ.tm, fgt b σ.hp⟩ i g = some G := by exact rfl) (hf : G = false := by first | rfl | (simp; done) | (simp; omega)) (hdf : forceO o.dst some = some dd := by exact rfl) (hd : dstOk nt dd = true := by exact rfl) : DrawU P E ops ns ((b, own) :: bs) (o :: l) σ K := by
 subst hf
 exact DU_op hdf (by rw [hn]; exact hd) (ops_ofG hg hG fun hh => by cases hh) hk
end
end Go.Sx

namespace Go.Proofs.Ytaagjnlkinojcaa
set_option linter.unusedSimpArgs false
set_option linter.unusedVariables false
open Go.Sx
set_option maxRecDepth 10000
abbrev e0 : ExT := ([], false, [])
def rawX (l : List Int) (p : Nat) : ExT × Nat × Int :=
 let r := openP l p (ofT 16)
 if r.2.2 = 0 then
   let o := oidR r.1 0
   if o.2.2 = 0 then
     let c := critR r.1 o.2.1
     if c.2.2 = 0 then
       let v := openP r.1 c.2.1 (ofT 4)
       if v.2.2 = 0 then (if v.2.1 < r.1.length then (e0, r.2.1, 7) else ((o.1, c.1, v.1), r.2.1, 0)) else (e0, r.2.1, v.2.2)
     else (e0, r.2.1, c.2.2)
   else (e0, r.2.1, o.2.2)
 else (e0, p, r.2.2)
def exR1 (l : List Int) (p : Nat) : ExT × Nat × Int := keepP e0 p (rawX l p)
theorem rawX_le (l : List Int) (p : Nat) (hp : p ≤ l.length) : p ≤ (rawX l p).2.1 ∧ (rawX l p).2.1 ≤ l.length := by
 have h := openP_le l p (ofT 16) hp
 unfold rawX
 dsimp only
 split
 · split
   · split
     · split
       · split
         · exact h
         · exact h
       · exact h
     · exact h
   · exact h
 · exact ⟨Nat.le_refl _, hp⟩
abbrev exE (x : ExT) (e : Int) : Av := .tup [exA x, lv (.int .i64 e)]
theorem up_e0 : AvUp1 (.agg [.lf (.v (.slice none 0 0)), .lf (.v (.bool false)), .lf (.v (.slice none 0 0))]) (exA e0) := by
 exact ⟨.inr ⟨rfl, .inl ⟨_, rfl⟩⟩, .inl rfl, .inr ⟨rfl, .inl ⟨_, rfl⟩⟩, trivial⟩
set_option maxHeartbeats 8000000 in
theorem rawX_ok (l : List Int) (p : Nat) (hp : p ≤ l.length) (hl : l.length ≤ 1000000) (hw : WfB l) : Ct Try.prog 47 [.c (.ptr 1 0)] [curB l p, ptrB] (exE (rawX l p).1 (rawX l p).2.2) [curB l (rawX l p).2.1, ptrB] [] := by
 have hho := headof_ok 16
 have hop := open_ok l p (ofT 16) hp hl hw
 have hoe := open_err l p (ofT 16) hp hl hw
 have hmem := openP_mem l p (ofT 16)
 unfold rawX
 generalize openP l p (ofT 16) = X at *
 obtain ⟨x, q, e⟩ := X
 dsimp only at *
 by_cases he : e = 0
 · subst he
   have hop := hop rfl
   rw [if_pos rfl]
   have hwx : WfB x := fun y hy => hw y (hmem.2 y hy)
   have h1 := oread_ok x 0 (Nat.zero_le _) (by omega) hwx
   have h1l := oidR_le x 0 (Nat.zero_le _)
   generalize oidR x 0 = O at *
   obtain ⟨o, p1, f1⟩ := O
   dsimp only at *
   by_cases hf1 : f1 = 0
   · subst hf1
     rw [if_pos rfl]
     have h2 := crit_ok x p1 h1l.2 (by omega) hwx
     have h2l := critR_le x p1 h1l.2
     generalize critR x p1 = C at *
     obtain ⟨c, p2, f2⟩ := C
     dsimp only at *
     by_cases hf2 : f2 = 0
     · subst hf2
       rw [if_pos rfl]
       have h3 := roct_ok x p2 h2l.2 (by omega) hwx
       have h3l := openP_le x p2 (ofT 4) h2l.2
       generalize openP x p2 (ofT 4) = V at *
       obtain ⟨v, p3, f3⟩ := V
       dsimp only at *
       by_cases hf3 : f3 = 0
       · subst hf3
         rw [if_pos rfl]
         have h4 := left_ok x p3 h3l.2 (by omega)
         by_cases hlt : p3 < x.length
         · rw [if_pos hlt]
           refine Ct_intro Try.func47 rfl rfl rfl rfl rfl (fun E hn hb => ?_)
           repeat refine nxw ?_
           refine du3E [73] [(2, 0), (2, 73)] ?_
           repeat (first | refine nx ?_ | refine dcn1 [0] hn hop ?_)
           refine rtU [] (hu := ?_)
           exact ⟨up_e0, .inl rfl, trivial⟩
         · rw [if_neg hlt]
           refine Ct_intro Try.func47 rfl rfl rfl rfl rfl (fun E hn hb => ?_)
           repeat refine nxw ?_
           refine du3E [73] [(2, 0), (2, 73)] ?_
           repeat (first | refine nx ?_ | refine dcn1 [0] hn hop ?_)
           exact rt1 []
       · rw [if_neg hf3]
         refine Ct_intro Try.func47 rfl rfl rfl rfl rfl (fun E hn hb => ?_)
         repeat refine nxw ?_
         refine du3E [73] [(2, 0), (2, 73)] ?_
         repeat (first | refine nx ?_ | refine dcn1 [0] hn hop ?_)
         refine rtU [] (hu := ?_)
         exact ⟨up_e0, .inl rfl, trivial⟩
     · rw [if_neg hf2]
       refine Ct_intro Try.func47 rfl rfl rfl rfl rfl (fun E hn hb => ?_)
       repeat refine nxw ?_
       refine du3E [73] [(2, 0), (2, 73)] ?_
       repeat (first | refine nx ?_ | refine dcn1 [0] hn hop ?_)
       refine rtU [] (hu := ?_)
       exact ⟨up_e0, .inl rfl, trivial⟩
   · rw [if_neg hf1]
     refine Ct_intro Try.func47 rfl rfl rfl rfl rfl (fun E hn hb => ?_)
     repeat refine nxw ?_
     refine du3E [73] [(2, 0), (2, 73)] ?_
     repeat (first | refine nx ?_ | refine dcn1 [0] hn hop ?_)
     refine rtU [] (hu := ?_)
     exact ⟨up_e0, .inl rfl, trivial⟩
 · have hoe := hoe he
   rw [if_neg he]
   refine Ct_intro Try.func47 rfl rfl rfl rfl rfl (fun E hn hb => ?_)
   repeat refine nxw ?_
   refine du3E [] [(2, 0)] ?_
   repeat (first | refine nx ?_ | refine dcn1 [0] hn hoe ?_)
   refine rtU [] (hu := ?_)
   exact ⟨up_e0, .inl rfl, trivial⟩
theorem keptE_ok (g : FuncId) (l : List Int) (p q : Nat) (x : ExT) (hg : Ct Try.prog g [.c (.ptr 1 0)] [curB l p, ptrB] (exE x 0) [curB l q, ptrB] []) :
   Ct Try.prog 46 [.c (.ptr 0 0), .c (.fn (.func g) [] [.ptr 1 0])] [curB l p, ptrB] (exE x 0) [curB l q, ptrB] [] := by
 have h1 := at_ok l p
 refine Ct_intro Try.func46 rfl rfl rfl rfl rfl (fun E hn hb => ?_)
 repeat refine nx ?_
 exact rt1 []
theorem keptE_err (g : FuncId) (l : List Int) (p q : Nat) (x : ExT) (e : Int) (he : e ≠ 0) (hq : p ≤ q) (hl : q ≤ 1000000) (hg : Ct Try.prog g [.c (.ptr 1 0)] [curB l p, ptrB] (exE x e) [curB l q, ptrB] []) :
   Ct Try.prog 46 [.c (.ptr 0 0), .c (.fn (.func g) [] [.ptr 1 0])] [curB l p, ptrB] (exE e0 e) [curB l p, ptrB] [] := by
 have h1 := at_ok l p
 have hbk := back_ok l q p hq hl
 refine Ct_intro Try.func46 rfl rfl rfl rfl rfl (fun E hn hb => ?_)
 repeat refine nx ?_
 refine rtU [] (hu := ?_)
 exact ⟨up_e0, .inl rfl, trivial⟩
theorem readone_ok (l : List Int) (p : Nat) (hp : p ≤ l.length) (hl : l.length ≤ 1000000) (hw : WfB l) : Ct Try.prog 26 [.c (.ptr 0 0)] [curB l p] (exE (exR1 l p).1 (exR1 l p).2.2) [curB l (exR1 l p).2.1] [] := by
 have h := rawX_ok l p hp hl hw
 have hle := rawX_le l p hp
 have hk : Ct Try.prog 46 [.c (.ptr 0 0), .c (.fn (.func 47) [] [.ptr 1 0])] [curB l p, ptrB] (exE (exR1 l p).1 (exR1 l p).2.2) [curB l (exR1 l p).2.1, ptrB] [] := by
   unfold exR1
   by_cases he : (rawX l p).2.2 = 0
   · rw [keepP_ok _ _ _ he]
     rw [he] at h ⊢
     exact keptE_ok 47 l p _ _ h
   · rw [keepP_err _ _ _ he]
     exact keptE_err 47 l p _ _ _ he hle.1 (by omega) h
 refine Ct_intro Try.func26 rfl rfl rfl rfl rfl (fun E hn hb => ?_)
 repeat refine nx ?_
 refine s_call [0, 65] hk rfl rfl (by rw [hn]; rfl) rfl rfl (by trivial) ⟨rfl, ⟨rfl, rfl⟩, (by simp [ordL]), rfl⟩ ?_
 repeat refine nx ?_
 exact rt1 []
end Go.Proofs.Ytaagjnlkinojcaa

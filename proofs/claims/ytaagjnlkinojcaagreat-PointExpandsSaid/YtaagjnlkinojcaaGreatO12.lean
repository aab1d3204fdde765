/-
  Chapter 04: oids as wholes. The conditions: none but the lengths.
-/
import Derived.Test.YtaagjnlkinojcaaGreatE5
import Derived.Test.YtaagjnlkinojcaaGreatSxQ
import Derived.Test.YtaagjnlkinojcaaGreatC13
import Derived.Test.YtaagjnlkinojcaaGreatC8
import Derived.Test.YtaagjnlkinojcaaGreatD8
namespace Go.Proofs.YtaagjnlkinojcaaGreat
set_option linter.unusedSimpArgs false
set_option linter.unusedVariables false
open Go.Sx
set_option maxRecDepth 10000
def zd8 (l : List ExT) (o : List Int) : List ExT := l.filter fun e => !decide (e.1 = o)
structure DelI (l : List ExT) (o : List Int) (cur : List ExT) (i j : Nat) : Prop where
 le : i ≤ j
 jl : j ≤ l.length
 len : cur.length = l.length
 front : cur.take i = zd8 (l.take j) o
 back : cur.drop j = l.drop j
theorem DelI.get {l cur : List ExT} {o : List Int} {i j : Nat} (h : DelI l o cur i j) (hj : j < l.length) : cur.getD j default = l.getD j default := by
 have h1 := congrArg (fun x => x.getD 0 default) h.back
 simpa [List.getD_eq_getElem?_getD, List.getElem?_drop] using h1
theorem DelI.skip {l cur : List ExT} {o : List Int} {i j : Nat} (h : DelI l o cur i j) (hj : j < l.length) (he : (l.getD j default).1 = o) : DelI l o cur i (j + 1) := by
 refine ⟨by have := h.le; omega, by omega, h.len, ?_, ?_⟩
 · rw [h.front]
   have := z7q (fun e : ExT => !decide (e.1 = o)) l j hj
   rw [if_neg (by rw [decide_eq_true he]; simp), List.append_nil] at this
   exact this.symm
 · have := congrArg (List.drop 1) h.back
   rwa [List.drop_drop, List.drop_drop] at this
theorem DelI.keep {l cur : List ExT} {o : List Int} {i j : Nat} (h : DelI l o cur i j) (hj : j < l.length) (he : ¬ (l.getD j default).1 = o) : DelI l o (cur.set i (l.getD j default)) (i + 1) (j + 1) := by
 have hle := h.le
 have hlen := h.len
 refine ⟨by omega, by omega, by simpa using hlen, ?_, ?_⟩
 · have := z7q (fun e : ExT => !decide (e.1 = o)) l j hj
   rw [if_pos (by rw [decide_eq_false he]; rfl)] at this
   unfold zd8
   rw [this]
   have h2 := h.front
   unfold zd8 at h2
   rw [← h2, List.take_add_one, List.getElem?_set_self (by omega), List.take_set_of_le (Nat.le_refl i)]
   rfl
 · rw [List.drop_set_of_lt (by omega)]
   have := congrArg (List.drop 1) h.back
   rwa [List.drop_drop, List.drop_drop] at this
end Go.Proofs.YtaagjnlkinojcaaGreat

namespace Go.Sx
open Go
set_option linter.unusedVariables false
set_option linter.unusedSimpArgs false
theorem zb2 {α : Type} {f : α → Prop} : ∀ {l : List α}, (∀ p, p ∈ l → f p) → z03 (l.map f)
 | [], _ => trivial
 | [p], h => h p (List.mem_singleton.2 rfl)
 | p :: q :: l, h => ⟨h p (List.mem_cons_self ..), zb2 (l := q :: l) fun r hr => h r (List.mem_cons_of_mem _ hr)⟩
theorem z9B {α : Type} : ∀ (l : List α) (n : Nat) (p : Nat × α), p ∈ z0f n l → ∃ i : Nat, p.1 = n + i ∧ l[i]? = some p.2
 | [], n, p, h => by cases h
 | y :: l, n, p, h => by
   rcases List.mem_cons.1 h with rfl | h
   · exact ⟨0, rfl, rfl⟩
   · obtain ⟨i, h1, h2⟩ := z9B l (n + 1) p h
     exact ⟨i + 1, by omega, h2⟩
theorem z8W : ∀ {l : List (Nat × Blk)} {k : Nat}, k ∉ l.map (·.1) → z0J l k = none
 | [], k, _ => rfl
 | (j, b) :: l, k, h => by
   simp only [List.map_cons, List.mem_cons, not_or] at h
   simp only [z0J, show Nat.beq k j = false from Bool.eq_false_iff.2 fun e => h.1 (Nat.eq_of_beq_eq_true e)]
   exact z8W h.2
theorem zb3 : ∀ {l : List (Nat × Blk)} {k : Nat}, z0J l k = none → k ∉ l.map (·.1)
 | [], k, _ => by simp
 | (j, b) :: l, k, h => by
   simp only [z0J] at h
   cases hb : Nat.beq k j with
   | true => rw [hb] at h; cases h
   | false =>
     rw [hb] at h
     simp only [List.map_cons, List.mem_cons, not_or]
     exact ⟨fun e => (by rw [e, Nat.beq_refl] at hb; cases hb), zb3 h⟩
theorem zb4 : ∀ (l : List (Nat × Blk)) (σ : St), (l.map (·.1)).Nodup → σ.sets l = ⟨σ.tm, z15 σ.hp l⟩
 | [], σ, _ => rfl
 | (j, b) :: l, σ, h => by
   simp only [List.map_cons, List.nodup_cons] at h
   show (σ.seth j b).sets l = _
   rw [zb4 l _ h.2]
   refine congrArg (St.mk σ.tm) ?_
   funext i
   rw [z4J, z4J]
   simp only [z0J]
   cases hb : Nat.beq i j with
   | true =>
     rw [Nat.eq_of_beq_eq_true hb, z8W h.1]
     simp [St.seth]
   | false =>
     have : i ≠ j := fun e => by rw [e, Nat.beq_refl] at hb; cases hb
     dsimp only
     cases z0J l i <;> simp [St.seth, this]
theorem zb5 : ∀ (l m : List (Nat × Blk)) (σ : St), (σ.sets l).sets m = σ.sets (l ++ m)
 | [], m, σ => rfl
 | (j, b) :: l, m, σ => zb5 l m (σ.seth j b)
section
variable {P : Program} {E : Env} {ops : Array Oper} {o : Oper} {σ : St}
theorem znL (d : Option Nat) : ∀ n, (z05 d n).length = n := by intro n; induction n with
 | zero => rfl
 | succ n ih => simp [z05, ih]
theorem znM {ns b own : List Nat} {bs : List (List Nat × List Nat)} {l : List Oper} {K : St → Prop} {c : Call} {fo : Operand} {f : FuncId} {first cap : List Cell} {pf : List Prop} {xs : List Av} {bor bor' : List Blk} {news : List Blk} {res : Av} {nt dn : Nat} (ks : List Nat) (hn : E.n = nt) (hF : Ct P f xs bor res bor' news) (hop : o.op = .call c) (hg : o.guard = none) (hd : o.dst = some dn) (hE0 : z08 nt o.dst = true)
   (hcv : c.callee = .value fo) (hfo : ox ⟨σ.tm, fgt b σ.hp⟩ fo = (pf, .c (.fn (.func f) first cap))) (hC : CallOk ⟨σ.tm, fgt b σ.hp⟩ (first.map Av.c ++ (oxs ⟨σ.tm, fgt b σ.hp⟩ c.args.toList).2 ++ cap.map Av.c) xs bor res bor' news ks (some dn))
   (hp : z03 (pf ++ (oxs ⟨σ.tm, fgt b σ.hp⟩ c.args.toList).1)) (hlen : ks.length = bor'.length) (hns : news.length = 0 ∨ (news.length = 1 ∧ z07 (nk (some dn) 0) ns = true)) (hown : (ks ++ z05 (some dn) news.length).all (fun k => z07 k own) = true)
   (hk : z0b P E ops ns bs l ((z0n σ ks (some dn) bor' news).put (some dn) (res.ren (z0s ks (some dn) news.length))) K) : z0b P E ops ns ((b, own) :: bs) (o :: l) σ K := by
 have hnd : (ks ++ z05 (some dn) news.length).Nodup := by
   have := hC.cok
   simp only [Bool.and_eq_true] at this
   simpa using this.2
 obtain ⟨u, hu⟩ : ∃ u, z3r ks (bor'.map (Blk.ren (z0s ks (some dn) news.length))) ++ z3r (z05 (some dn) news.length) (news.map (Blk.ren (z0s ks (some dn) news.length))) = u := ⟨_, rfl⟩
 have hfst : u.map (·.1) = ks ++ z05 (some dn) news.length := by
   rw [← hu, List.map_append, z1F _ _ (by simpa using hlen), z1F _ _ (by simp [znL])]
 have eaf : ∀ τ : St, z0n τ ks (some dn) bor' news = ⟨τ.tm, z15 τ.hp u⟩ := fun τ => by
   unfold z0n
   rw [zb5, hu]
   exact zb4 u τ (by rw [hfst]; exact hnd)
 rw [eaf] at hk
 refine z3t (x := res.ren (z0s ks (some dn) news.length)) (u := u) ?_ (fun j hj => ?_) (by rw [hd]; exact hk)
 · intro τ hl β F a w hS hnn KK Q hK
   rw [show Region.wanted o (yielded ops a.tmps) = true by simp [Region.wanted, hg], if_pos rfl]
   have hcut : SRb E β F ⟨τ.tm, fgt b σ.hp⟩ a w := hS.cut hl
   have x1 : ox ⟨τ.tm, fgt b σ.hp⟩ fo = ox ⟨σ.tm, fgt b σ.hp⟩ fo := hl.ox fo (by rw [hop]; simp [Op.operands, Call.operands, hcv])
   have x2 : oxs ⟨τ.tm, fgt b σ.hp⟩ c.args.toList = oxs ⟨σ.tm, fgt b σ.hp⟩ c.args.toList := z42 (o := o) (τ := ⟨τ.tm, fgt b σ.hp⟩) (σ := ⟨σ.tm, fgt b σ.hp⟩) (fun y hy => hl.ox y hy) _ fun y hy => by
     rw [hop]; simp only [Op.operands, Call.operands]; simp at hy ⊢; first | exact .inr hy | exact .inl hy | simp [hy]
   have hfv := oxR hcut fo
   rw [x1, hfo] at hfv
   have hfv := hfv hp.left
   generalize hv : a.eval fo = fv at hfv
   cases hfv with | c hfv => cases hfv with | fn _ _ _ f1 c1 n1 n2 r1 r2 =>
   obtain ⟨l1, l2⟩ := z4A hcut c.args.toList (by rw [x2]; exact hp.right)
   rw [x2] at l1 l2
   have hrun : (execOp a.eval o).run P w = .ok (.enter f (f1 ++ c.args.map a.eval ++ c1)) w := by
     simp only [execOp, hop, resolve, hcv, hv, Deferred.ofValue, Sem.run_bind, Sem.run_pure, Result.andThen_ok, invoke]
     exact z1H hF.2.1
   unfold Oper.wp
   rw [hrun, Oper.upon_enter]
   have hbor : ∀ i blk, bor[i]? = some blk → τ.hp (ks.getD i 0) = blk.ren (z0s ks (some dn) news.length) := fun i blk hi => by
     have h1 := z19 hC.cbor _ (z1R bor 0 i blk hi)
     have h2 := z19 hC.cgone _ (z1R bor 0 i blk hi)
     have h1 : fgt b σ.hp (ks.getD i 0) = blk.ren (z0s ks (some dn) news.length) := by simpa using h1
     have h2 : blk ≠ .gone := by simpa using h2
     rw [zao] at h1
     cases hb : z07 (ks.getD i 0) b with
     | true =>
       rw [hb] at h1
       exact absurd h1.symm (Blk.ren_ne h2)
     | false =>
       rw [hb] at h1
       rw [hl.hp _ hb]
       exact h1
   have hC2 : CallOk τ (first.map Av.c ++ (oxs ⟨σ.tm, fgt b σ.hp⟩ c.args.toList).2 ++ cap.map Av.c) xs bor res bor' news ks (some dn) := ⟨hC.cargs, zb2 fun p hp => by
     obtain ⟨i, blk⟩ := p
     obtain ⟨k, hk1, hk2⟩ := z9B bor 0 _ hp
     dsimp only at hk1 ⊢
     have := hbor k blk hk2
     rw [hk1, Nat.zero_add]
     exact this, hC.cgone, hC.cok⟩
   have hcore := z5U (σ := τ) (bs := ks) (d := some dn) (vs := (f1 ++ c.args.map a.eval ++ c1).toList) hF hS (fun i => by
     rcases hns with h0 | ⟨h0, h1⟩
     · exact .inr (by omega)
     · rcases Nat.lt_or_ge i 1 with h | h
       · obtain rfl : i = 0 := by omega
         exact .inl (hnn dn hd h1)
       · exact .inr (by omega)) hC2 (by simp [n1, n2, l1]) (fun i y v hy hv => by
     simp only [Array.toList_append, List.append_assoc] at hv
     rw [List.append_assoc] at hy
     rcases Nat.lt_or_ge i first.length with h | h
     · rw [List.getElem?_append_left (by simpa using h)] at hy
       rw [List.getElem?_append_left (by simp [n1]; exact h)] at hv
       rw [List.getElem?_map, Option.map_eq_some_iff] at hy
       obtain ⟨x, hx, rfl⟩ := hy
       exact .c (r1 i x v hx (by simpa using hv))
     · rw [List.getElem?_append_right (by simpa using h)] at hy
       rw [List.getElem?_append_right (by simp [n1]; exact h)] at hv
       simp only [List.length_map, Array.length_toList, n1] at hy hv
       rcases Nat.lt_or_ge (i - first.length) c.args.toList.length with h' | h'
       · rw [List.getElem?_append_left (by rw [l1]; exact h')] at hy
         rw [List.getElem?_append_left (by simpa using h')] at hv
         exact l2 _ y v hy (by simpa using hv)
       · rw [List.getElem?_append_right (by rw [l1]; exact h')] at hy
         rw [List.getElem?_append_right (by simpa using h')] at hv
         rw [List.getElem?_map, Option.map_eq_some_iff] at hy
         obtain ⟨x, hx, rfl⟩ := hy
         refine .c (r2 _ x v hx ?_)
         simp only [l1] at hx
         simpa [l1] using hv)
   rw [Array.toArray_toList] at hcore
   refine hcore.mono fun e w' hq => ?_
   obtain ⟨v, rfl, β', F', hv', hβ', hS'⟩ := hq
   rw [eaf] at hS'
   refine hK _ _ β' F' ?_ fun k hk => hβ' k fun hm => zb3 hk (by rw [hfst]; exact List.mem_append_right _ hm)
   rw [hd]
   exact hS'.put hv' (z0o (by rw [hn, ← hd]; exact hE0))
 · have hm : j ∈ ks ++ z05 (some dn) news.length := by
     rw [← hfst]
     exact Classical.not_not.1 fun h => hj (z8W h)
   exact List.all_eq_true.1 hown j hm
theorem z6e {ns b own : List Nat} {bs : List (List Nat × List Nat)} {l : List Oper} {K : St → Prop} {c : Call} {fo : Operand} {f : FuncId} {first cap : List Cell} {pf : List Prop} {xs : List Av} {bor bor' : List Blk} {news : List Blk} {res : Av} {nt dn : Nat} (ks : List Nat) (hn : E.n = nt) (hF : Ct P f xs bor res bor' news)
   (hk : z0b P E ops ns bs l ((z0n σ ks (some dn) bor' news).put (some dn) (res.ren (z0s ks (some dn) news.length))) K) (hop : o.op = .call c := by exact rfl) (hg : o.guard = none := by exact rfl) (hd : o.dst = some dn := by exact rfl) (hE0 : z08 nt o.dst = true := by exact rfl)
   (hcv : c.callee = .value fo := by exact rfl) (hfo : ox ⟨σ.tm, fgt b σ.hp⟩ fo = (pf, .c (.fn (.func f) first cap)) := by exact rfl)
   (h1 : first.map Av.c ++ (oxs ⟨σ.tm, fgt b σ.hp⟩ c.args.toList).2 ++ cap.map Av.c = xs.map (Av.ren (z0s ks (some dn) news.length)) := by exact rfl)
   (h2 : z03 ((z0f 0 bor).map fun p => (St.mk σ.tm (fgt b σ.hp)).hp (ks.getD p.1 0) = p.2.ren (z0s ks (some dn) news.length)) := by first | trivial | exact rfl | exact ⟨rfl, rfl⟩ | exact ⟨rfl, rfl, rfl⟩)
   (h3 : z03 ((z0f 0 bor).map fun p => p.2 ≠ .gone) := by first | trivial | (simp [z0f]; done) | fail)
   (h4 : (xs.all (Av.ok ks.length) && bor.all (Blk.ok ks.length) && res.ok (ks.length + news.length) && bor'.all (Blk.ok (ks.length + news.length)) && news.all (Blk.ok (ks.length + news.length)) && Nat.beq ks.length bor.length && decide (ks ++ z05 (some dn) news.length).Nodup) = true := by exact rfl)
   (hp : z03 (pf ++ (oxs ⟨σ.tm, fgt b σ.hp⟩ c.args.toList).1) := by exact vcs) (hlen : ks.length = bor'.length := by exact rfl) (hns : news.length = 0 ∨ (news.length = 1 ∧ z07 (nk (some dn) 0) ns = true) := by first | exact .inl rfl | exact .inr ⟨rfl, rfl⟩) (hown : (ks ++ z05 (some dn) news.length).all (fun k => z07 k own) = true := by exact rfl) : z0b P E ops ns ((b, own) :: bs) (o :: l) σ K :=
 znM ks hn hF hop hg hd hE0 hcv hfo ⟨h1, h2, h3, h4⟩ hp hlen hns hown hk
theorem z6f {Q : Exit → Act → World → Prop} {id : Nat} {l : List Oper} {bs : List (List Nat × List Nat)} (ns : List Nat) (ws : List (Nat × Nat)) (h : z0b P E l.toArray ns bs l (σ.kills ns) (fun τ => WL P E l.toArray Q [] τ)) (hm : P.follows .mixedOrders = true := by kernel_rfl)
   (hbs : z3L (z60 l.toArray ws 0 l) some = some bs := by exact rfl) (hB : z61 l.toArray l ns ws = true := by kernel_rfl) (h64 : ns.all (Nat.ble 64) = true := by exact rfl) : W P E (.region id l.toArray true) Q σ := z8K ns ws hm hB hbs h64 h
end
end Go.Sx

namespace Go.Proofs.YtaagjnlkinojcaaGreat
set_option linter.unusedSimpArgs false
set_option linter.unusedVariables false
open Go.Sx
set_option maxRecDepth 10000
abbrev e0 : ExT := ([], false, [])

def zb6 (o : List Int) : List Int × Int := if z0N o then (z0p (z0P o), 0) else ([], 1)
def z16 (o : List Int) : List Int × Int := if z0N o then (z0i (ofT 6) (z0p (z0P o)), 0) else ([], 1)
theorem z33 {o : List Int} (hr : z0N o = true) : (z0p (z0P o)).length ≤ 186 := by
 obtain ⟨a, b, t, rfl, _, _, _, _, ht, _⟩ := z3c hr
 have := z5k (z0P (a :: b :: t))
 simp [z0P] at *
 omega
theorem zhv (o : List Int) (hl : o.length ≤ 16000000) : Ct Tryz.prog 236 [I64 o] [] (.tup [B8 (zb6 o).1, lv (.int .i64 (zb6 o).2)]) [] [] := by
 have h := zfy o hl
 unfold z7f at h
 unfold zb6
 split at h
 · rename_i hr; rw [if_pos hr]; exact h
 · rename_i hr; rw [if_neg hr]; exact h
theorem z9C (o : List Int) (hl : o.length ≤ 16000000) : Ct Tryz.prog 222 [I64 o] [] (.tup [B8 (z16 o).1, lv (.int .i64 (z16 o).2)]) [] [] := by
 have hc := zhv o hl
 by_cases hr : z0N o = true
 · have e1 : zb6 o = (z0p (z0P o), 0) := if_pos hr
   have e2 : z16 o = (z0i (ofT 6) (z0p (z0P o)), 0) := if_pos hr
   have hlen := z33 hr
   rw [e1] at hc
   rw [e2]
   generalize z0p (z0P o) = X at *
   have hwr := z7i (ofT 6) [X] (by decide) (by simp) (by simp; omega)
   rw [show [X].flatten = X by simp] at hwr
   have hof := z1I 6
   generalize ofT 6 = t at *
   generalize z0i t X = Y at *
   refine z00 Tryz.func222 rfl rfl rfl rfl rfl (fun E hn hb => ?_)
   repeat (refine nst ?_)
   refine z1e (hc) rfl rfl rfl (by rw [hn]; rfl) rfl rfl (by exact vcs) rfl rfl rfl ?_
   repeat (refine nst ?_)
   refine z04 rfl (by simp) (fun h1 => ?_) (fun h1 => ?_)
   · simp at h1
   repeat (refine nst ?_)
   refine z1e (hof) rfl rfl rfl (by rw [hn]; rfl) rfl rfl (by exact vcs) rfl rfl rfl ?_
   repeat (refine nst ?_)
   refine z0W (z0A (z73 (d := (.recs 1 [[.ints .u8 X]])) rfl (z0j Tryz.underlying249 rfl rfl) z9N rfl (by exact vcs) rfl ⟨by decide, by decide, rfl, rfl⟩) rfl) (by rw [hn]; rfl) ?_
   refine z1e (hwr) rfl rfl rfl (by rw [hn]; rfl) rfl rfl (by exact vcs) rfl rfl rfl ?_
   repeat (refine nst ?_)
   exact rt1 []
 · have e1 : zb6 o = ([], 1) := if_neg hr
   have e2 : z16 o = ([], 1) := if_neg hr
   rw [e1] at hc
   rw [e2]
   refine z00 Tryz.func222 rfl rfl rfl rfl rfl (fun E hn hb => ?_)
   repeat (refine nst ?_)
   refine z1e (hc) rfl rfl rfl (by rw [hn]; rfl) rfl rfl (by exact vcs) rfl rfl rfl ?_
   repeat (refine nst ?_)
   refine z04 rfl (by simp) (fun h1 => ?_) (fun h1 => ?_)
   · repeat (refine nst ?_)
     refine zav [] rfl (by simp) (r' := .tup [B8 [], lv (.int .i64 1)]) ⟨.inr ⟨rfl, .inl ⟨_, rfl⟩⟩, .inl rfl, trivial⟩ ⟨rfl, trivial, trivial, rfl⟩ hb rfl trivial
   · simp at h1
end Go.Proofs.YtaagjnlkinojcaaGreat

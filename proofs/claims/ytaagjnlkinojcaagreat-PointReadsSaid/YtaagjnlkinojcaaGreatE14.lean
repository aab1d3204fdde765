/-
  Chapter 17: extensions that are read: how far, and what they are; there and back. Plain. The conditions: bytes.
-/
import Derived.Test.YtaagjnlkinojcaaGreatSxQ
import Derived.Test.YtaagjnlkinojcaaGreatE7
import Derived.Test.YtaagjnlkinojcaaGreatD8
import Derived.Test.YtaagjnlkinojcaaGreatC12
import Derived.Test.YtaagjnlkinojcaaGreatA6
import Derived.Test.YtaagjnlkinojcaaGreatW27
namespace Go.Sx
open Go
set_option linter.unusedVariables false
set_option linter.unusedSimpArgs false
theorem zbh {α : Type} {f : α → Prop} : ∀ {l : List α}, (∀ p, p ∈ l → f p) → z03 (l.map f)
 | [], _ => trivial
 | [p], h => h p (List.mem_singleton.2 rfl)
 | p :: q :: l, h => ⟨h p (List.mem_cons_self ..), zbh (l := q :: l) fun r hr => h r (List.mem_cons_of_mem _ hr)⟩
theorem z9S {α : Type} : ∀ (l : List α) (n : Nat) (p : Nat × α), p ∈ z0i n l → ∃ i : Nat, p.1 = n + i ∧ l[i]? = some p.2
 | [], n, p, h => by cases h
 | y :: l, n, p, h => by
   rcases List.mem_cons.1 h with rfl | h
   · exact ⟨0, rfl, rfl⟩
   · obtain ⟨i, h1, h2⟩ := z9S l (n + 1) p h
     exact ⟨i + 1, by omega, h2⟩
theorem z9n : ∀ {l : List (Nat × Blk)} {k : Nat}, k ∉ l.map (·.1) → z0N l k = none
 | [], k, _ => rfl
 | (j, b) :: l, k, h => by
   simp only [List.map_cons, List.mem_cons, not_or] at h
   simp only [z0N, show Nat.beq k j = false from Bool.eq_false_iff.2 fun e => h.1 (Nat.eq_of_beq_eq_true e)]
   exact z9n h.2
theorem zbi : ∀ {l : List (Nat × Blk)} {k : Nat}, z0N l k = none → k ∉ l.map (·.1)
 | [], k, _ => by simp
 | (j, b) :: l, k, h => by
   simp only [z0N] at h
   cases hb : Nat.beq k j with
   | true => rw [hb] at h; cases h
   | false =>
     rw [hb] at h
     simp only [List.map_cons, List.mem_cons, not_or]
     exact ⟨fun e => (by rw [e, Nat.beq_refl] at hb; cases hb), zbi h⟩
theorem zbj : ∀ (l : List (Nat × Blk)) (σ : St), (l.map (·.1)).Nodup → σ.sets l = ⟨σ.tm, z1f σ.hp l⟩
 | [], σ, _ => rfl
 | (j, b) :: l, σ, h => by
   simp only [List.map_cons, List.nodup_cons] at h
   show (σ.seth j b).sets l = _
   rw [zbj l _ h.2]
   refine congrArg (St.mk σ.tm) ?_
   funext i
   rw [z4R, z4R]
   simp only [z0N]
   cases hb : Nat.beq i j with
   | true =>
     rw [Nat.eq_of_beq_eq_true hb, z9n h.1]
     simp [St.seth]
   | false =>
     have : i ≠ j := fun e => by rw [e, Nat.beq_refl] at hb; cases hb
     dsimp only
     cases z0N l i <;> simp [St.seth, this]
theorem zbk : ∀ (l m : List (Nat × Blk)) (σ : St), (σ.sets l).sets m = σ.sets (l ++ m)
 | [], m, σ => rfl
 | (j, b) :: l, m, σ => zbk l m (σ.seth j b)
section
variable {P : Program} {E : Env} {ops : Array Oper} {o : Oper} {σ : St}
theorem zo1 (d : Option Nat) : ∀ n, (z08 d n).length = n := by intro n; induction n with
 | zero => rfl
 | succ n ih => simp [z08, ih]
theorem zo2 {ns b own : List Nat} {bs : List (List Nat × List Nat)} {l : List Oper} {K : St → Prop} {c : Call} {fo : Operand} {f : FuncId} {first cap : List Cell} {pf : List Prop} {xs : List Av} {bor bor' : List Blk} {news : List Blk} {res : Av} {nt dn : Nat} (ks : List Nat) (hn : E.n = nt) (hF : Ct P f xs bor res bor' news) (hop : o.op = .call c) (hg : o.guard = none) (hd : o.dst = some dn) (hE0 : z0b nt o.dst = true)
   (hcv : c.callee = .value fo) (hfo : ox ⟨σ.tm, fgt b σ.hp⟩ fo = (pf, .c (.fn (.func f) first cap))) (hC : CallOk ⟨σ.tm, fgt b σ.hp⟩ (first.map Av.c ++ (oxs ⟨σ.tm, fgt b σ.hp⟩ c.args.toList).2 ++ cap.map Av.c) xs bor res bor' news ks (some dn))
   (hp : z03 (pf ++ (oxs ⟨σ.tm, fgt b σ.hp⟩ c.args.toList).1)) (hlen : ks.length = bor'.length) (hns : news.length = 0 ∨ (news.length = 1 ∧ z07 (nk (some dn) 0) ns = true)) (hown : (ks ++ z08 (some dn) news.length).all (fun k => z07 k own) = true)
   (hk : z0e P E ops ns bs l ((z0p σ ks (some dn) bor' news).put (some dn) (res.ren (z0t ks (some dn) news.length))) K) : z0e P E ops ns ((b, own) :: bs) (o :: l) σ K := by
 have hnd : (ks ++ z08 (some dn) news.length).Nodup := by
   have := hC.cok
   simp only [Bool.and_eq_true] at this
   simpa using this.2
 obtain ⟨u, hu⟩ : ∃ u, z3G ks (bor'.map (Blk.ren (z0t ks (some dn) news.length))) ++ z3G (z08 (some dn) news.length) (news.map (Blk.ren (z0t ks (some dn) news.length))) = u := ⟨_, rfl⟩
 have hfst : u.map (·.1) = ks ++ z08 (some dn) news.length := by
   rw [← hu, List.map_append, z1N _ _ (by simpa using hlen), z1N _ _ (by simp [zo1])]
 have eaf : ∀ τ : St, z0p τ ks (some dn) bor' news = ⟨τ.tm, z1f τ.hp u⟩ := fun τ => by
   unfold z0p
   rw [zbk, hu]
   exact zbj u τ (by rw [hfst]; exact hnd)
 rw [eaf] at hk
 refine z5f (x := res.ren (z0t ks (some dn) news.length)) (u := u) ?_ (fun j hj => ?_) (by rw [hd]; exact hk)
 · intro τ hl β F a w hS hnn KK Q hK
   rw [show Region.wanted o (yielded ops a.tmps) = true by simp [Region.wanted, hg], if_pos rfl]
   have hcut : SRb E β F ⟨τ.tm, fgt b σ.hp⟩ a w := hS.cut hl
   have x1 : ox ⟨τ.tm, fgt b σ.hp⟩ fo = ox ⟨σ.tm, fgt b σ.hp⟩ fo := hl.ox fo (by rw [hop]; simp [Op.operands, Call.operands, hcv])
   have x2 : oxs ⟨τ.tm, fgt b σ.hp⟩ c.args.toList = oxs ⟨σ.tm, fgt b σ.hp⟩ c.args.toList := z48 (o := o) (τ := ⟨τ.tm, fgt b σ.hp⟩) (σ := ⟨σ.tm, fgt b σ.hp⟩) (fun y hy => hl.ox y hy) _ fun y hy => by
     rw [hop]; simp only [Op.operands, Call.operands]; simp at hy ⊢; first | exact .inr hy | exact .inl hy | simp [hy]
   have hfv := oxR hcut fo
   rw [x1, hfo] at hfv
   have hfv := hfv hp.left
   generalize hv : a.eval fo = fv at hfv
   cases hfv with | c hfv => cases hfv with | fn _ _ _ f1 c1 n1 n2 r1 r2 =>
   obtain ⟨l1, l2⟩ := z5j hcut c.args.toList (by rw [x2]; exact hp.right)
   rw [x2] at l1 l2
   have hrun : (execOp a.eval o).run P w = .ok (.enter f (f1 ++ c.args.map a.eval ++ c1)) w := by
     simp only [execOp, hop, resolve, hcv, hv, Deferred.ofValue, Sem.run_bind, Sem.run_pure, Result.andThen_ok, invoke]
     exact z2b hF.2.1
   unfold Oper.wp
   rw [hrun, Oper.upon_enter]
   have hbor : ∀ i blk, bor[i]? = some blk → τ.hp (ks.getD i 0) = blk.ren (z0t ks (some dn) news.length) := fun i blk hi => by
     have h1 := z1a hC.cbor _ (z20 bor 0 i blk hi)
     have h2 := z1a hC.cgone _ (z20 bor 0 i blk hi)
     have h1 : fgt b σ.hp (ks.getD i 0) = blk.ren (z0t ks (some dn) news.length) := by simpa using h1
     have h2 : blk ≠ .gone := by simpa using h2
     rw [zaX] at h1
     cases hb : z07 (ks.getD i 0) b with
     | true =>
       rw [hb] at h1
       exact absurd h1.symm (Blk.ren_ne h2)
     | false =>
       rw [hb] at h1
       rw [hl.hp _ hb]
       exact h1
   have hC2 : CallOk τ (first.map Av.c ++ (oxs ⟨σ.tm, fgt b σ.hp⟩ c.args.toList).2 ++ cap.map Av.c) xs bor res bor' news ks (some dn) := ⟨hC.cargs, zbh fun p hp => by
     obtain ⟨i, blk⟩ := p
     obtain ⟨k, hk1, hk2⟩ := z9S bor 0 _ hp
     dsimp only at hk1 ⊢
     have := hbor k blk hk2
     rw [hk1, Nat.zero_add]
     exact this, hC.cgone, hC.cok⟩
   have hcore := z5W (σ := τ) (bs := ks) (d := some dn) (vs := (f1 ++ c.args.map a.eval ++ c1).toList) hF hS (fun i => by
     rcases hns with h0 | ⟨h0, h1⟩
     · exact .inr (by omega)
     · rcases Nat.lt_or_ge i 1 with h | h
       · obtain rfl : i = 0 := by omega
         exact .inl (hnn dn hd h1)
       · exact .inr (by omega)) hC2 (by simp [n1, n2, l1]) (fun i y v hy hv => by
     simp only [Array.toList_append, List.append_assoc] at hv
     rw [List.append_assoc] at hy
     rcases Nat.lt_or_ge i first.length with h | h
     · rw [List.getElem?_append_left (by simpa using h)] at hy
       rw [List.getElem?_append_left (by simp [n1]; exact h)] at hv
       rw [List.getElem?_map, Option.map_eq_some_iff] at hy
       obtain ⟨x, hx, rfl⟩ := hy
       exact .c (r1 i x v hx (by simpa using hv))
     · rw [List.getElem?_append_right (by simpa using h)] at hy
       rw [List.getElem?_append_right (by simp [n1]; exact h)] at hv
       simp only [List.length_map, Array.length_toList, n1] at hy hv
       rcases Nat.lt_or_ge (i - first.length) c.args.toList.length with h' | h'
       · rw [List.getElem?_append_left (by rw [l1]; exact h')] at hy
         rw [List.getElem?_append_left (by simpa using h')] at hv
         exact l2 _ y v hy (by simpa using hv)
       · rw [List.getElem?_append_right (by rw [l1]; exact h')] at hy
         rw [List.getElem?_append_right (by simpa using h')] at hv
         rw [List.getElem?_map, Option.map_eq_some_iff] at hy
         obtain ⟨x, hx, rfl⟩ := hy
         refine .c (r2 _ x v hx ?_)
         simp only [l1] at hx
         simpa [l1] using hv)
   rw [Array.toArray_toList] at hcore
   refine hcore.mono fun e w' hq => ?_
   obtain ⟨v, rfl, β', F', hv', hβ', hS'⟩ := hq
   rw [eaf] at hS'
   refine hK _ _ β' F' ?_ fun k hk => hβ' k fun hm => zbi hk (by rw [hfst]; exact List.mem_append_right _ hm)
   rw [hd]
   exact hS'.put hv' (z0v (by rw [hn, ← hd]; exact hE0))
 · have hm : j ∈ ks ++ z08 (some dn) news.length := by
     rw [← hfst]
     exact Classical.not_not.1 fun h => hj (z9n h)
   exact List.all_eq_true.1 hown j hm
theorem z6g {ns b own : List Nat} {bs : List (List Nat × List Nat)} {l : List Oper} {K : St → Prop} {c : Call} {fo : Operand} {f : FuncId} {first cap : List Cell} {pf : List Prop} {xs : List Av} {bor bor' : List Blk} {news : List Blk} {res : Av} {nt dn : Nat} (ks : List Nat) (hn : E.n = nt) (hF : Ct P f xs bor res bor' news)
   (hk : z0e P E ops ns bs l ((z0p σ ks (some dn) bor' news).put (some dn) (res.ren (z0t ks (some dn) news.length))) K) (hop : o.op = .call c := by exact rfl) (hg : o.guard = none := by exact rfl) (hd : o.dst = some dn := by exact rfl) (hE0 : z0b nt o.dst = true := by exact rfl)
   (hcv : c.callee = .value fo := by exact rfl) (hfo : ox ⟨σ.tm, fgt b σ.hp⟩ fo = (pf, .c (.fn (.func f) first cap)) := by exact rfl)
   (h1 : first.map Av.c ++ (oxs ⟨σ.tm, fgt b σ.hp⟩ c.args.toList).2 ++ cap.map Av.c = xs.map (Av.ren (z0t ks (some dn) news.length)) := by exact rfl)
   (h2 : z03 ((z0i 0 bor).map fun p => (St.mk σ.tm (fgt b σ.hp)).hp (ks.getD p.1 0) = p.2.ren (z0t ks (some dn) news.length)) := by first | trivial | exact rfl | exact ⟨rfl, rfl⟩ | exact ⟨rfl, rfl, rfl⟩)
   (h3 : z03 ((z0i 0 bor).map fun p => p.2 ≠ .gone) := by first | trivial | (simp [z0i]; done) | fail)
   (h4 : (xs.all (Av.ok ks.length) && bor.all (Blk.ok ks.length) && res.ok (ks.length + news.length) && bor'.all (Blk.ok (ks.length + news.length)) && news.all (Blk.ok (ks.length + news.length)) && Nat.beq ks.length bor.length && decide (ks ++ z08 (some dn) news.length).Nodup) = true := by exact rfl)
   (hp : z03 (pf ++ (oxs ⟨σ.tm, fgt b σ.hp⟩ c.args.toList).1) := by exact vcs) (hlen : ks.length = bor'.length := by exact rfl) (hns : news.length = 0 ∨ (news.length = 1 ∧ z07 (nk (some dn) 0) ns = true) := by first | exact .inl rfl | exact .inr ⟨rfl, rfl⟩) (hown : (ks ++ z08 (some dn) news.length).all (fun k => z07 k own) = true := by exact rfl) : z0e P E ops ns ((b, own) :: bs) (o :: l) σ K :=
 zo2 ks hn hF hop hg hd hE0 hcv hfo ⟨h1, h2, h3, h4⟩ hp hlen hns hown hk
theorem z5A {Q : Exit → Act → World → Prop} {id : Nat} {l : List Oper} {bs : List (List Nat × List Nat)} (ns : List Nat) (ws : List (Nat × Nat)) (h : z0e P E l.toArray ns bs l (σ.kills ns) (fun τ => WL P E l.toArray Q [] τ)) (hm : P.follows .mixedOrders = true := by kernel_rfl)
   (hbs : z3V (z66 l.toArray ws 0 l) some = some bs := by exact rfl) (hB : z67 l.toArray l ns ws = true := by kernel_rfl) (h64 : ns.all (Nat.ble 64) = true := by exact rfl) : W P E (.region id l.toArray true) Q σ := z9d ns ws hm hB hbs h64 h
end
end Go.Sx

namespace Go.Proofs.YtaagjnlkinojcaaGreat
set_option linter.unusedSimpArgs false
set_option linter.unusedVariables false
open Go.Sx
set_option maxRecDepth 10000
abbrev e0 : ExT := ([], false, [])

def zbl (o : List Int) : List Int × Int := if z0S o then (z0E (z17 o), 0) else ([], 1)
def z1O (o : List Int) : List Int × Int := if z0S o then (z0q (ofT 6) (z0E (z17 o)), 0) else ([], 1)
theorem z4b {o : List Int} (hr : z0S o = true) : (z0E (z17 o)).length ≤ 186 := by
 obtain ⟨a, b, t, rfl, _, _, _, _, ht, _⟩ := z40 hr
 have := z5q (z17 (a :: b :: t))
 simp [z17] at *
 omega
theorem zhI (o : List Int) (hl : o.length ≤ 1000000) : Ct Tryz.prog 236 [I64 o] [] (.tup [B8 (zbl o).1, lv (.int .i64 (zbl o).2)]) [] [] := by
 have h := zgo o hl
 unfold z7z at h
 unfold zbl
 split at h
 · rename_i hr; rw [if_pos hr]; exact h
 · rename_i hr; rw [if_neg hr]; exact h
theorem z9T (o : List Int) (hl : o.length ≤ 1000000) : Ct Tryz.prog 222 [I64 o] [] (.tup [B8 (z1O o).1, lv (.int .i64 (z1O o).2)]) [] [] := by
 have hc := zhI o hl
 by_cases hr : z0S o = true
 · have e1 : zbl o = (z0E (z17 o), 0) := if_pos hr
   have e2 : z1O o = (z0q (ofT 6) (z0E (z17 o)), 0) := if_pos hr
   have hlen := z4b hr
   rw [e1] at hc
   rw [e2]
   generalize z0E (z17 o) = X at *
   have hwr := z9j (ofT 6) [X] (by decide) (by simp) (by simp; omega)
   rw [show [X].flatten = X by simp] at hwr
   have hof := z1E 6
   generalize ofT 6 = t at *
   generalize z0q t X = Y at *
   refine z00 Tryz.func222 rfl rfl rfl rfl rfl (fun E hn hb => ?_)
   repeat (refine nst ?_)
   refine z18 (hc) rfl rfl rfl (by rw [hn]; rfl) rfl rfl (by exact vcs) rfl rfl rfl ?_
   repeat (refine nst ?_)
   refine z05 rfl (by simp) (fun h1 => ?_) (fun h1 => ?_)
   · simp at h1
   repeat (refine nst ?_)
   refine z18 (hof) rfl rfl rfl (by rw [hn]; rfl) rfl rfl (by exact vcs) rfl rfl rfl ?_
   repeat (refine nst ?_)
   refine z0K (z0x (z7i (d := (.recs 1 [[.ints .u8 X]])) rfl (z0k Tryz.underlying249 rfl rfl) zal rfl (by exact vcs) rfl ⟨by decide, by decide, rfl, rfl⟩) rfl) (by rw [hn]; rfl) ?_
   refine z18 (hwr) rfl rfl rfl (by rw [hn]; rfl) rfl rfl (by exact vcs) rfl rfl rfl ?_
   repeat (refine nst ?_)
   exact rt1 []
 · have e1 : zbl o = ([], 1) := if_neg hr
   have e2 : z1O o = ([], 1) := if_neg hr
   rw [e1] at hc
   rw [e2]
   refine z00 Tryz.func222 rfl rfl rfl rfl rfl (fun E hn hb => ?_)
   repeat (refine nst ?_)
   refine z18 (hc) rfl rfl rfl (by rw [hn]; rfl) rfl rfl (by exact vcs) rfl rfl rfl ?_
   repeat (refine nst ?_)
   refine z05 rfl (by simp) (fun h1 => ?_) (fun h1 => ?_)
   · repeat (refine nst ?_)
     refine z5K [] rfl (by simp) (r' := .tup [B8 [], lv (.int .i64 1)]) ⟨.inr ⟨rfl, .inl ⟨_, rfl⟩⟩, .inl rfl, trivial⟩ ⟨rfl, trivial, trivial, rfl⟩ hb rfl trivial
   · simp at h1

theorem z5O {n : Int} (h : 0 ≤ n ∧ n ≤ 2147483647) : inR n = true := by simp [inR]; omega
theorem zdx {n : Int} (h : 0 ≤ n ∧ n ≤ 2147483647) : z0S (z3y n) = true := by
 unfold z3y
 by_cases c : n < 80
 · rw [if_pos c, z1n, if_neg (by simp)]
   have h1 : ([n / 40, n % 40] : List Int).all inR = true := by
     simp only [List.all_cons, List.all_nil, Bool.and_true, Bool.and_eq_true]
     exact ⟨z5O (by omega), z5O (by omega)⟩
   rw [if_neg (by rw [h1]; simp), if_pos (by omega)]
   simp; omega
 · rw [if_neg c, z1n, if_neg (by simp)]
   have h1 : ([2, n - 80] : List Int).all inR = true := by
     simp only [List.all_cons, List.all_nil, Bool.and_true, Bool.and_eq_true]
     exact ⟨z5O (by omega), z5O (by omega)⟩
   rw [if_neg (by rw [h1]; simp), if_neg (by omega), if_pos rfl]
   simp; omega
theorem zbU {o : List Int} {n : Int} (ho : z0S o = true) (hl : o.length ≠ 32) (h : 0 ≤ n ∧ n ≤ 2147483647) : z0S (o ++ [n]) = true := by
 match o, ho with
 | a :: b :: t, ho =>
   rw [List.cons_append, List.cons_append, z1n]
   rw [z1n] at ho
   by_cases c1 : 30 < t.length
   · rw [if_pos c1] at ho; cases ho
   · rw [if_neg c1] at ho
     by_cases c2 : (a :: b :: t).all inR = false
     · rw [if_pos c2] at ho; cases ho
     · rw [if_neg c2] at ho
       rw [if_neg (by simp at hl ⊢; omega)]
       have h1 : (a :: b :: (t ++ [n])).all inR = true := by
         rw [Bool.not_eq_false] at c2
         rw [← List.cons_append, ← List.cons_append, List.all_append, c2]
         simp [z5O h]
       rw [if_neg (by rw [h1]; simp)]
       exact ho
theorem z8R (l : List Int) (hw : WfB l) : ∀ (k p : Nat) (o : List Int), l.length - p < k → (z0S o = true ∨ (o = [] ∧ p < l.length)) → (prA k l p o).2 = 0 → z0S (prA k l p o).1 = true
 | 0, p, o, h, _, _ => by omega
 | k + 1, p, o, h, ho, he => by
   unfold prA at he ⊢
   by_cases hp : p < l.length
   · rw [if_pos hp] at he ⊢
     dsimp only at he ⊢
     have hn := (z58 (l.drop p) p 0 true).2.2 (by rw [z1D l p hp]; simp)
     have hr := z5H (l.drop p) p 0 true (by omega) (fun x hx => hw x (List.mem_of_mem_drop hx))
     split at he
     · rename_i h1
       rw [if_pos h1]
       split at he
       · simp at he
       · rename_i h2
         rw [if_neg h2]
         refine z8R l hw k _ _ (by omega) (.inl ?_) he
         rcases ho with ho | ⟨rfl, _⟩
         · have : ¬ o.length = 0 := by
             intro h; rw [List.eq_nil_of_length_eq_zero h] at ho; cases ho
           rw [if_neg this]
           exact zbU ho h2 hr
         · rw [if_pos (by rfl), List.nil_append]
           exact zdx hr
     · rename_i h1
       exact absurd he h1
   · rw [if_neg hp]
     rcases ho with ho | ⟨_, h⟩
     · exact ho
     · exact absurd h hp
theorem zbV (l : List Int) (hw : WfB l) (he : (z2k l).2 = 0) : z0S (z2k l).1 = true := by
 unfold z2k at he ⊢
 by_cases h0 : l = []
 · rw [if_pos h0] at he; simp at he
 · rw [if_neg h0] at he ⊢
   have : 0 < l.length := by
     cases l with
     | nil => exact absurd rfl h0
     | cons => simp
   exact z8R l hw _ _ _ (by omega) (.inr ⟨rfl, this⟩) he
theorem zeK {a b : List Int} {x y : Int} (h : a ++ [x] = b ++ [y]) : a = b ∧ x = y := by
 have := List.append_inj' h rfl
 exact ⟨this.1, by simpa using this.2⟩
theorem zbm : ∀ (r : List Int) (p : Nat) (n : Int) (f : Bool) (N : Int) (q : Nat), (∀ x ∈ r, 0 ≤ x ∧ x < 256) → 0 ≤ n → n ≤ 2147483647 → nxA r p n f = (N, 0, q) →
   ∃ w r', r = w ++ r' ∧ q = p + w.length ∧ (f = true → n = 0 → z1A N.toNat = w) ∧ (f = false → 0 < n → ∀ L, z1A n.toNat = L ++ [n % 128] → z1A N.toNat = L ++ [n % 128 + 128] ++ w)
 | [], p, n, f, N, q, _, _, _, h => by simp [nxA] at h
 | x :: r, p, n, f, N, q, hw, h0, hm, h => by
   have hx := hw x (List.mem_cons_self ..)
   unfold nxA at h
   by_cases c1 : f = true ∧ x = 128
   · rw [if_pos c1] at h; simp at h
   · rw [if_neg c1] at h
     by_cases c2 : 2147483647 < 128 * n + x % 128
     · rw [if_pos c2] at h; simp at h
     · rw [if_neg c2] at h
       have big : f = false → 0 < n → ∀ L, z1A n.toNat = L ++ [n % 128] → z1A (128 * n + x % 128).toNat = (L ++ [n % 128 + 128]) ++ [x % 128] := by
         intro hf hn L hL
         obtain ⟨L', k1, k2⟩ := zbq (n := (128 * n + x % 128).toNat) (by omega) (by omega)
         have e1 : (128 * n + x % 128).toNat / 128 = n.toNat := by omega
         rw [e1, hL] at k1
         obtain ⟨rfl, e2⟩ := zeK k1
         rw [k2, e1]
         have e3 : ((n.toNat % 128 : Nat) : Int) = n % 128 := by omega
         have e4 : (((128 * n + x % 128).toNat % 128 : Nat) : Int) = x % 128 := by omega
         rw [e3, e4]
       by_cases c3 : x < 128
       · rw [if_pos c3] at h
         simp only [Prod.mk.injEq] at h
         obtain ⟨rfl, _, rfl⟩ := h
         refine ⟨[x], r, rfl, rfl, fun hf hn => ?_, fun hf hn L hL => ?_⟩
         · subst hn
           have : (128 * 0 + x % 128).toNat = x.toNat := by omega
           rw [this, z6h (by omega)]
           have : ((x.toNat : Nat) : Int) = x := by omega
           rw [this]
         · rw [big hf hn L hL, show x % 128 = x by omega]
       · rw [if_neg c3] at h
         obtain ⟨w, r', e1, e2, _, e4⟩ := zbm r (p + 1) (128 * n + x % 128) false N q (fun y hy => hw y (List.mem_cons_of_mem _ hy)) (by omega) (by omega) h
         refine ⟨x :: w, r', by rw [e1]; rfl, by rw [e2]; simp; omega, fun hf hn => ?_, fun hf hn L hL => ?_⟩
         · subst hn
           have hx1 : x ≠ 128 := fun h => c1 ⟨hf, h⟩
           have := e4 rfl (by omega) [] (by rw [z6h (by omega)]; simp; omega)
           rw [this]
           have e5 : (128 * 0 + x % 128) % 128 + 128 = x := by omega
           rw [e5]
           rfl
         · have := e4 rfl (by omega) (L ++ [n % 128 + 128]) (by rw [big hf hn L hL]; have : (128 * n + x % 128) % 128 = x % 128 := by omega
                                                                rw [this])
           rw [this]
           have e5 : (128 * n + x % 128) % 128 + 128 = x := by omega
           rw [e5]
           simp
theorem zeL {N : Int} (h : 0 ≤ N) : z17 (z3y N) = [N] := by
 unfold z3y
 by_cases c : N < 80
 · rw [if_pos c]
   show [40 * (N / 40) + N % 40] = [N]
   rw [show 40 * (N / 40) + N % 40 = N by omega]
 · rw [if_neg c]
   show [40 * 2 + (N - 80)] = [N]
   rw [show 40 * 2 + (N - 80) = N by omega]
theorem z9U (l : List Int) (hw : WfB l) : ∀ (k p : Nat) (o ro : List Int), l.length - p < k → (o = [] ∨ 2 ≤ o.length) → prA k l p o = (ro, 0) → z0E (z17 ro) = z0E (z17 o) ++ l.drop p
 | 0, p, o, ro, h, _, _ => by omega
 | k + 1, p, o, ro, h, ho, he => by
   unfold prA at he
   by_cases hp : p < l.length
   · rw [if_pos hp] at he
     dsimp only at he
     have hn := (z58 (l.drop p) p 0 true).2.2 (by rw [z1D l p hp]; simp)
     have hr := z5H (l.drop p) p 0 true (by omega) (fun x hx => hw x (List.mem_of_mem_drop hx))
     have hb := zbm (l.drop p) p 0 true
     generalize nxA (l.drop p) p 0 true = X at *
     obtain ⟨N, e, q⟩ := X
     dsimp only at *
     by_cases h1 : e = 0
     · subst h1
       rw [if_pos rfl] at he
       obtain ⟨w, r', e1, e2, e3, _⟩ := hb N q (fun x hx => hw x (List.mem_of_mem_drop hx)) (by omega) (by omega) rfl
       have e3 := e3 rfl rfl
       have hdq : l.drop q = r' := by rw [e2, ← List.drop_drop, e1, List.drop_left]
       by_cases h2 : o.length = 32
       · rw [if_pos h2] at he; simp at he
       · rw [if_neg h2] at he
         have ih := z9U l hw k q _ ro (by omega) (.inr ?_) he
         · rw [ih, e1, hdq, ← List.append_assoc]
           congr 1
           rcases ho with rfl | ho
           · rw [if_pos (by rfl), List.nil_append, zeL hr.1]
             show [N].flatMap (fun x => z1A x.toNat) = [] ++ w
             simp [e3]
           · match o, ho with
             | a :: b :: t, _ =>
               rw [if_neg (by simp)]
               show ((40 * a + b) :: (t ++ [N])).flatMap (fun x => z1A x.toNat) = ((40 * a + b) :: t).flatMap (fun x => z1A x.toNat) ++ w
               rw [← List.cons_append, List.flatMap_append]
               simp [e3]
         · rcases ho with rfl | ho
           · rw [if_pos (by rfl)]
             unfold z3y
             split <;> simp
           · rw [if_neg (by omega)]
             simp; omega
     · rw [if_neg h1] at he
       simp only [Prod.mk.injEq] at he
       exact absurd he.2 h1
   · rw [if_neg hp] at he
     simp only [Prod.mk.injEq] at he
     obtain ⟨rfl, _⟩ := he
     rw [List.drop_eq_nil_of_le (by omega), List.append_nil]
theorem zdy {l o : List Int} (hw : WfB l) (h : z2k l = (o, 0)) : z0E (z17 o) = l := by
 unfold z2k at h
 by_cases h0 : l = []
 · rw [if_pos h0] at h; simp at h
 · rw [if_neg h0] at h
   have := z9U l hw _ 0 [] o (by omega) (.inl rfl) h
   rw [this]
   rfl
theorem zbn {a b : List Int} (ha : WfB a) (hb : WfB b) : WfB (a ++ b) := fun x hx => (List.mem_append.1 hx).elim (ha x) (hb x)
theorem z86 (t : z0m) (X : List Int) (h : z1b t = true) (hw : WfB X) : WfB (z0q t X) := by
 have hr : 0 ≤ t.1 ∧ t.1 ≤ 3 ∧ 0 ≤ t.2.1 ∧ t.2.1 < 2097152 := by simp [z1b] at h; omega
 have hfm := z6C h
 have hfi : 0 ≤ z19 t ∧ z19 t ≤ 224 := by
   simp only [List.mem_cons, List.not_mem_nil, or_false] at hfm
   omega
 have hD := z8Z 128 (by decide) 5 t.2.1.toNat
 have h2 := z1Z 256 5 X.length
 have hL := zc1 256 (by decide) (by decide) 5 X.length
 refine zbn (zbn ?_ ?_) hw
 · unfold tgL
   split
   · intro x hx
     rw [List.mem_singleton.1 hx]
     omega
   · intro x hx
     cases hx with
     | head => omega
     | tail _ hx =>
       unfold hiL at hx
       rcases List.mem_append.1 hx with hx | hx
       · obtain ⟨y, hy, rfl⟩ := List.mem_map.1 hx
         have := hD y (List.mem_reverse.1 (List.mem_of_mem_take hy))
         omega
       · have := hD x (List.mem_reverse.1 (List.mem_of_mem_drop hx))
         omega
 · unfold z1P
   split
   · intro x hx
     rw [List.mem_singleton.1 hx]
     omega
   · intro x hx
     cases hx with
     | head => omega
     | tail _ hx => exact hL x (List.mem_reverse.1 hx)

theorem zdz {l o : List Int} {p q : Nat} (hw : WfB l) (h : z3c l p = (o, q, 0)) : z0S o = true ∧ l.drop p = z0q (ofT 6) (z0E (z17 o)) ++ l.drop q := by
 unfold z3c at h
 have hm := z0w l p (ofT 6)
 generalize hX : z0g l p (ofT 6) = X at *
 obtain ⟨x, q1, e⟩ := X
 dsimp only at *
 have hwx : WfB x := fun y hy => hw y (hm.2 y hy)
 by_cases he : e = 0
 · subst he
   rw [if_pos rfl] at h
   have hr := zbV x hwx
   generalize hY : z2k x = Y at *
   obtain ⟨o1, f⟩ := Y
   dsimp only at *
   by_cases hf : f = 0
   · subst hf
     rw [if_pos rfl] at h
     simp only [Prod.mk.injEq] at h
     obtain ⟨rfl, rfl, _⟩ := h
     refine ⟨hr rfl, ?_⟩
     rw [zdy hwx hY]
     exact (z4B hw hX).2
   · rw [if_neg hf] at h
     simp only [Prod.mk.injEq] at h
     exact absurd h.2.2 hf
 · rw [if_neg he] at h
   simp only [Prod.mk.injEq] at h
   exact absurd h.2.2 he
end Go.Proofs.YtaagjnlkinojcaaGreat

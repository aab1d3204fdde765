/-
  Chapter 01: cursors that are only looked at. The conditions: rows of bytes that a machine can hold.
-/
import Derived.Test.YtaagjnlkinojcaaGreatSxK
import Derived.Laws.StructEq
import Derived.Scope
import Derived.Test.YtaagjnlkinojcaaGreatTy
namespace Go.Sx
open Go
set_option linter.unusedVariables false
set_option linter.unusedSimpArgs false
theorem SRb.freeze0 {E : Env} {β : Nat → Option Nat} {F : Nat → Prop} {σ : St} {a : Act} {w : World} (h : SRb E β F σ a w) {j : Nat} {d : Leaf} (hj : σ.hp j = .row d) (hjn : E.nb ≤ j) (hl : ∀ i, i < E.nb → σ.hp i ≠ .gone) :
   SRb E (fun i => if i = j then none else β i) (fun b => F b ∨ β j = some b) (σ.kill j) a w := by
 have hgone : σ.hp j ≠ .gone := by rw [hj]; intro h; cases h
 have hB := h.hp j
 rw [hj] at hB
 let β' : Nat → Option Nat := fun i => if i = j then none else β i
 let F' : Nat → Prop := fun b => F b ∨ β j = some b
 have hβ : ∀ i, i ≠ j → β' i = β i := fun i hi => if_neg hi
 have hk := h.kill j hjn
 have hF : ∀ b, F b → F' b := fun b hb => .inl hb
 -- the state with the block gone, in the greater F
 have hk2 : SRb E β' F' (σ.kill j) a w := by
   refine ⟨fun i => (hk.tm i).mono (fun _ _ h => h) (fun b hb => ⟨hF b hb, rfl⟩) (fun _ _ h => h), hk.sz, hk.df, fun i => ?_, hk.inj, fun i g hi e => ?_, hk.lt, fun b hb => ?_, hk.keep, hk.bb, hk.nbl⟩
   · have := hk.hp i
     revert this
     cases (σ.kill j).hp i with
     | gone => exact fun _ => trivial
     | map es =>
       rintro ⟨g, ms, ck, e1, e2, e3, e4⟩
       exact ⟨g, ms, ck, e1, e2, e3, fun i k x hx => let ⟨e, q1, q2, q3⟩ := e4 i k x hx; ⟨e, q1, q2, q3.mono fun b hb => ⟨hF b hb, rfl⟩⟩⟩
     | raw g ob =>
       exact fun h => h
     | mapS g ms ck es =>
       rintro ⟨e1, e2, e3, e4⟩
       exact ⟨e1, e2, e3, fun i k x hx => let ⟨e, q1, q2, q3⟩ := e4 i k x hx; ⟨e, q1, q2, q3.mono fun b hb => ⟨hF b hb, rfl⟩⟩⟩
     | cells cs =>
       rintro ⟨g, cur, e1, e2, e3, e4⟩
       exact ⟨g, cur, e1, e2, e3, fun i x v hx hv => (e4 i x v hx hv).mono (fun _ _ h => h) (fun b hb => ⟨hF b hb, rfl⟩) (fun _ _ h => h)⟩
     | fr vs cs =>
       rintro ⟨g, cur, e1, e2, e3, e4⟩
       exact ⟨g, cur, e1, e2, e3, fun i x v hx hv => (e4 i x v hx hv).mono (fun _ _ h => h) (fun b hb => ⟨hF b hb, rfl⟩) (fun _ _ h => h)⟩
     | row d =>
       cases d with
       | ints k l => exact fun h => h
       | recs sz l =>
         rintro ⟨e1, e2⟩
         refine ⟨e1, ?_⟩
         rcases e2 with e2 | ⟨g, cur, e2, e3, e4⟩
         · exact .inl e2
         · refine .inr ⟨g, cur, e2, e3, fun i r k x hi hk => ?_⟩
           obtain ⟨u, hu, hl⟩ := e4 i r k x hi hk
           exact ⟨u, hu, hl.mono fun b hb => ⟨hF b hb, rfl⟩⟩
       | v => exact fun h => h
       | obj => exact fun h => h
   · obtain ⟨a1, a2, a3⟩ := hk.own i g hi e
     refine ⟨a1, a2, ?_⟩
     rintro (hf | hf)
     · exact a3 hf
     · have e : (if i = j then none else β i) = some g := e
       by_cases hij : i = j
       · simp [hij] at e
       · simp only [hij, if_false] at e
         have hi' : σ.hp i ≠ .gone := by
           simp only [St.kill, hij, decide_false] at hi
           exact Blk.kill_ne hi
         exact hij (h.inj i j g hi' hgone e hf)
   · rcases hb with hb | hb
     · exact h.fr b hb
     · obtain ⟨a1, a2, a3⟩ := h.own j b hgone hb
       refine ⟨a1, ?_⟩
       rcases a2 with a2 | a2
       · exact .inr a2
       · obtain ⟨i, hi, e⟩ := E.hM b a2
         have e' := h.bb i hi
         rw [e] at e'
         have := h.inj i j b (hl i hi) hgone e' hb
         omega
 exact hk2
section
variable {P : Program} {E : Env} {ops : Array Oper} {Q : Exit → Act → World → Prop} {rest : List Oper} {o : Oper} {σ : St} {x : Av}
theorem SR.freezeC {a : Act} {w : World} (j K : Nat) {d : Leaf} {cs cs' : List Cell} (hj : σ.hp j = .row d) (hK : σ.hp K = .cells cs) (hne : Nat.beq K j = false) (hjn : E.nb ≤ j) (hl : ∀ i, i < E.nb → σ.hp i ≠ .gone) (hf : z5i d j cs cs') (h : SR E σ a w) :
   SR E ((σ.kill j).seth K (.cells cs')) a w := by
 obtain ⟨β, F, h⟩ := h
 have hKj : K ≠ j := fun e => by rw [e] at hne; simp at hne
 have h0 := h.freeze0 hj hjn hl
 have hB := h.hp j
 rw [hj] at hB
 have hC := h.hp K
 rw [hK] at hC
 obtain ⟨g, cur, e1, e2, e3, e4⟩ := hC
 obtain ⟨h1, h2⟩ := hf.get
 refine ⟨_, _, h0.setBlk ?_ ⟨g, cur, (if_neg hKj).trans e1, e2, by omega, fun i c' v hc hv => ?_⟩⟩
 · show (match decide (K = j) with | true => Blk.gone | false => (σ.hp K).kill j) ≠ .gone
   simp only [hKj, decide_false, hK]
   intro h; cases h
 · obtain ⟨c, hc2, hfc⟩ := h2 i c' hc
   exact hfc.sound (β' := fun i => if i = j then none else β i) (F' := fun b => F b ∨ β j = some b) hB (fun g hg => .inr hg) (fun b hb => .inl hb) (fun i hi => if_neg hi) (e4 i c v hc2 hv)
theorem ze1 {c : Call} {fo : Operand} {f : FuncId} {first cap : List Cell} {pf : List Prop} {xs : List Av} {k : IntKind} {l : List Int} {off len : Nat} (hF : Ct P f xs [] (.c (.own 0 1 off len)) [] [.row (.ints k l)])
   (hop : o.op = .call c) (hcv : c.callee = .value fo) (hfo : ox σ fo = (pf, .c (.fn (.func f) first cap)))
   (hp : z03 (pf ++ (oxs σ c.args.toList).1)) (hxs : z3m σ (first.map Av.c ++ (oxs σ c.args.toList).2 ++ cap.map Av.c) xs) (hok : xs.all (Av.ok 0) = true) (hlen0 : off + len ≤ l.length) : OpY P E o σ (.c (.lf (.ints k ((l.drop off).take len)))) := by
 intro β F a w hS K Q hK
 have hokx := List.all_eq_true.1 hok
 obtain ⟨hle, hlend⟩ := hxs.get
 have hfv := oxR hS fo
 rw [hfo] at hfv
 have hfv := hfv hp.left
 generalize hv : a.eval fo = fv at hfv
 cases hfv with | c hfv => cases hfv with | fn _ _ _ f1 c1 n1 n2 r1 r2 =>
 obtain ⟨l1, l2⟩ := z4A hS c.args.toList hp.right
 have hrun : (execOp a.eval o).run P w = .ok (.enter f (f1 ++ c.args.map a.eval ++ c1)) w := by
   simp only [execOp, hop, resolve, hcv, hv, Deferred.ofValue, Sem.run_bind, Sem.run_pure, Result.andThen_ok, invoke]
   exact z1H hF.2.1
 unfold Oper.wp
 rw [hrun, Oper.upon_enter]
 have hargs : ∀ (i : Nat) (x : Av) (v : Value), xs[i]? = some x → (f1 ++ c.args.map a.eval ++ c1).toList[i]? = some v → AvR (fun _ => none) (fun b => F b ∨ ∃ j, σ.hp j ≠ .gone ∧ β j = some b) w x v := by
   intro i x v hx hv
   obtain ⟨y, hy, hl⟩ := hlend i x hx
   have key : AvR β F w y v := by
     simp only [Array.toList_append, List.append_assoc] at hv
     rw [List.append_assoc] at hy
     rcases Nat.lt_or_ge i first.length with h | h
     · rw [List.getElem?_append_left (by simpa using h)] at hy
       rw [List.getElem?_append_left (by simp [n1]; exact h)] at hv
       rw [List.getElem?_map, Option.map_eq_some_iff] at hy
       obtain ⟨x, hx, rfl⟩ := hy
       exact .c (r1 i x v hx (by simpa using hv))
     · rw [List.getElem?_append_right (by simpa using h)] at hy
       rw [List.getElem?_append_right (by simp [n1]; exact h)] at hv
       simp only [List.length_map, Array.length_toList, n1] at hy hv
       rcases Nat.lt_or_ge (i - first.length) c.args.toList.length with h' | h'
       · rw [List.getElem?_append_left (by rw [l1]; exact h')] at hy
         rw [List.getElem?_append_left (by simpa using h')] at hv
         exact l2 _ y v hy (by simpa using hv)
       · rw [List.getElem?_append_right (by rw [l1]; exact h')] at hy
         rw [List.getElem?_append_right (by simpa using h')] at hv
         rw [List.getElem?_map, Option.map_eq_some_iff] at hy
         obtain ⟨x, hx, rfl⟩ := hy
         refine .c (r2 _ x v hx ?_)
         simp only [l1] at hx
         simpa [l1] using hv
   have := AvR.ren (β := fun _ => none) (ρ := id) (n := 0) (fun i h => absurd h (Nat.not_lt_zero _)) (hl.sound hS key) (hokx x (List.mem_of_getElem? hx))
   rwa [Av.ren_id] at this
 have hlen : (f1 ++ c.args.map a.eval ++ c1).toList.length = xs.length := by
   rw [← hle]
   simp [n1, n2, l1]
 have hcall := hF.2.2 w (fun _ => none) _ (f1 ++ c.args.map a.eval ++ c1).toList hlen hargs (fun i b h => by simp at h) (fun i j g h => absurd h (Nat.not_lt_zero _)) (fun j g h => absurd h (Nat.not_lt_zero _)) (fun _ _ => rfl) (fun b hb => by
   rcases hb with hb | ⟨j, _, hj⟩
   · exact (hS.fr b hb).1
   · exact hS.lt j b hj) hS.gd0
 rw [Array.toArray_toList] at hcall
 refine hcall.mono fun e w' hq => ?_
 obtain ⟨v, β', F', rfl, hres, _, hnews, hout⟩ := hq
 have hg : Grow w w' := ⟨hout.keep.os, hout.keep.tape, hout.keep.output, hout.keep.size, fun k hk => hout.keep.block k hk (by rintro ⟨i, hi, _⟩; exact absurd hi (Nat.not_lt_zero _))⟩
 have hB := hnews 0 _ rfl
 have hv2 : CellR (fun _ => none) (fun b => F b ∨ β' 0 = some b) w' (.lf (.ints k ((l.drop off).take len))) v := by
   cases hres with | c hres => cases hres with | own _ _ _ _ ad cp hc hm h =>
   have hh : CellR (fun i => if i = 0 then none else β' i) (fun b => F b ∨ β' 0 = some b) w' (.lf (.ints k ((l.drop off).take len))) _ :=
     z7I.sound (β := β') (F := F) (j := 0) (d := .ints k l) (c := .own 0 1 off len) hB (fun g hg => .inr hg) (fun b hb => .inl hb) (fun i hi => if_neg hi) ⟨rfl, rfl, rfl, hlen0, rfl⟩ (.own _ _ _ _ _ _ hc hm h)
   cases hh with | lf hh => exact .lf hh
 refine hK v w' (fun b => F b ∨ β' 0 = some b) hg (fun b h => .inl h) (fun b hb => ?_) (.c (by cases hv2 with | lf hh => exact .lf hh))
 rcases hb with hb | hb
 · exact .inl hb
 · have h1 := hout.own 0 b (by simp) hb
   have h2 := hout.new 0 b (by simp) hb
   exact .inr ⟨h2, h1.1⟩
theorem z8p {c : Call} {fo : Operand} {f : FuncId} {first cap : List Cell} {pf : List Prop} {xs : List Av} {k : IntKind} {l : List Int} {off len : Nat} (hF : Ct P f xs [] (.c (.own 0 1 off len)) [] [.row (.ints k l)])
   (hop : o.op = .call c) (hcv : c.callee = .value fo) (hfo : ox σ fo = (pf, .c (.fn (.func f) first cap)))
   (hp : z03 (pf ++ (oxs σ c.args.toList).1)) (hxs : z3m σ (first.map Av.c ++ (oxs σ c.args.toList).2 ++ cap.map Av.c) xs) (hok : xs.all (Av.ok 0) = true) (hlen : off + len ≤ l.length) : z41 P E ops o σ (.c (.lf (.ints k ((l.drop off).take len)))) := by
 intro τ hl
 have hx := hl.ox
 have e1 : ox τ fo = ox σ fo := hx fo (by rw [hop]; simp [Op.operands, Call.operands, hcv])
 have e2 : oxs τ c.args.toList = oxs σ c.args.toList := z42 hx _ fun y hy => by
   rw [hop]; simp only [Op.operands, Call.operands]; simp at hy ⊢; first | exact .inr hy | exact .inl hy | simp [hy]
 exact ze1 hF hop hcv (by rw [e1]; exact hfo) (by rw [e2]; exact hp) (by rw [e2]; exact z7O hl.hp hxs) hok hlen
def z2b : List Cell → List Cell → Bool
 | .lf (.v (.int _ a)) :: xs, .lf (.v (.int _ b)) :: ys => (a == b) && z2b xs ys
 | .lf (.v (.bool a)) :: xs, .lf (.v (.bool b)) :: ys => (a == b) && z2b xs ys
 | _, _ => true
def z8N (P : Program) : List Field → Nat → List Cell → List Cell → Prop
 | [], _, [], [] => True
 | f :: fs, i, .lf (.v (.int k a)) :: xs, .lf (.v (.int k' b)) :: ys => (f.name ≠ "_" ∧ f.offset = i ∧ k = k' ∧ P.cellsOf f.type = 1 ∧ ∃ k2, P.underlying f.type = some (.int k2)) ∧ z8N P fs (i + 1) xs ys
 | f :: fs, i, .lf (.v (.bool a)) :: xs, .lf (.v (.bool b)) :: ys => (f.name ≠ "_" ∧ f.offset = i ∧ P.cellsOf f.type = 1 ∧ P.underlying f.type = some .bool) ∧ z8N P fs (i + 1) xs ys
 | _, _, _, _ => False
theorem z4F {e : TypeId} (he : (P.underlying e).isSome = true) (hi : (P.info? e).isSome = true) (ha : z2a P e = false) (w : World) (XS : Array Value) (v : Value) (i : Nat) (h : XS[i]? = some v) :
   (part e XS i).run P w = .ok v w := by
 have hlt := (Array.getElem?_eq_some_iff.1 h).1
 have hv : XS.getD i undef = v := by simp [Array.getD_eq_getD_getElem?, h]
 simp [part, z1v he, ha, hlt, ← hv]
theorem z45 (w : World) (d : Nat) (XS YS : Array Value) : ∀ (fs : List Field) (i : Nat) (xs ys : List Cell), z8N P fs i xs ys → (∀ (j : Nat) (x : Value), xs[j]? = some (.lf (.v x)) → XS[i + j]? = some x) → (∀ (j : Nat) (x : Value), ys[j]? = some (.lf (.v x)) → YS[i + j]? = some x) →
   (Op.eqFields (d + 1) XS YS fs).run P w = .ok (z2b xs ys) w
 | [], i, xs, ys, h, hx, hy => by
   match xs, ys, h with
   | [], [], _ => simp [Op.eqFields, z2b]
 | f :: fs, i, xs, ys, h, hx, hy => by
   match xs, ys, h with
   | .lf (.v (.int k a)) :: xs, .lf (.v (.int k' b)) :: ys, ⟨⟨h1, h2, h3, h4, k2, h5⟩, h6⟩ =>
     subst h3
     have ih := z45 w d XS YS fs (i + 1) xs ys h6 (fun j x hj => by rw [show i + 1 + j = i + (j + 1) by omega]; exact hx (j + 1) x (by simpa using hj)) (fun j x hj => by rw [show i + 1 + j = i + (j + 1) by omega]; exact hy (j + 1) x (by simpa using hj))
     have hx0 := hx 0 _ rfl
     have hy0 := hy 0 _ rfl
     rw [Nat.add_zero] at hx0 hy0
     have hi := z0G (P := P) (t := f.type) (by rw [h4]; decide)
     have ht : z2a P f.type = false := by simp [z2a, h5]
     have hs : (P.underlying f.type).isSome = true := by simp [h5]
     simp only [Op.eqFields, h1, ne_eq, not_false_eq_true, if_true, h2, Sem.run_bind, z4F hs hi ht w XS _ i hx0, z4F hs hi ht w YS _ i hy0, Result.andThen_ok, run_equalIn_int w d f.type k k2 a b h5]
     cases hab : (a == b) with
     | true => simp only [Bool.not_true, Bool.false_eq_true, if_false, ih, z2b, hab, Bool.true_and]
     | false => simp only [Bool.not_false, if_true, Sem.run_pure, z2b, hab, Bool.false_and]
   | .lf (.v (.bool a)) :: xs, .lf (.v (.bool b)) :: ys, ⟨⟨h1, h2, h4, h5⟩, h6⟩ =>
     have ih := z45 w d XS YS fs (i + 1) xs ys h6 (fun j x hj => by rw [show i + 1 + j = i + (j + 1) by omega]; exact hx (j + 1) x (by simpa using hj)) (fun j x hj => by rw [show i + 1 + j = i + (j + 1) by omega]; exact hy (j + 1) x (by simpa using hj))
     have hx0 := hx 0 _ rfl
     have hy0 := hy 0 _ rfl
     rw [Nat.add_zero] at hx0 hy0
     have hi := z0G (P := P) (t := f.type) (by rw [h4]; decide)
     have ht : z2a P f.type = false := by simp [z2a, h5]
     have hs : (P.underlying f.type).isSome = true := by simp [h5]
     simp only [Op.eqFields, h1, ne_eq, not_false_eq_true, if_true, h2, Sem.run_bind, z4F hs hi ht w XS _ i hx0, z4F hs hi ht w YS _ i hy0, Result.andThen_ok, run_equalIn_bool' w d f.type a b h5]
     cases hab : (a == b) with
     | true => simp only [Bool.not_true, Bool.false_eq_true, if_false, ih, z2b, hab, Bool.true_and]
     | false => simp only [Bool.not_false, if_true, Sem.run_pure, z2b, hab, Bool.false_and]
theorem z8O {t t' : TypeId} {neg : Bool} {y z : Operand} {p q : List Prop} {l m : List Cell} (hop : o.op = .binOp (if neg then .neq else .eql) t y z t') (ht : P.underlying t = some (.struct (P.fieldsOf t))) (hst : P.stoodInHeld t = false)
   (hy : ox σ y = (p, .agg l)) (hz : ox σ z = (q, .agg m)) (hp : z03 (p ++ q)) (hg : P.eqGuardType P.depth t = false) (hok : z8N P (P.fieldsOf t).toList 0 l m) : OpY P E o σ (lv (.bool ((z2b l m) != neg))) := by
 refine z39 fun β F a w hS => ?_
 have h1 := oxR hS y
 rw [hy] at h1
 have h1 := h1 hp.left
 have h2 := oxR hS z
 rw [hz] at h2
 have h2 := h2 hp.right
 generalize he1 : a.eval y = v1 at h1
 generalize he2 : a.eval z = v2 at h2
 dsimp only at h1 h2
 cases h1 with | agg _ XS x1 x2 =>
 cases h2 with | agg _ YS y1 y2 =>
 have key : ∀ {cs : List Cell} {CS : Array Value}, CS.size = cs.length → (∀ (i : Nat) (x : Cell) (v : Value), cs[i]? = some x → CS[i]? = some v → CellR β F w x v) → ∀ (j : Nat) (x : Value), cs[j]? = some (.lf (.v x)) → CS[0 + j]? = some x := by
   intro cs CS h1 h2 j x hj
   have hlt := (List.getElem?_eq_some_iff.1 hj).1
   have := h2 j _ CS[j] hj (by simp [h1, hlt])
   rw [Nat.zero_add]
   generalize hu : CS[j] = u at this
   cases this with | lf h => cases h with | v _ h => simp [h1, hlt, hu]
 have hrun : (Op.equalIn 10000 t (.agg XS) (.agg YS)).run P w = .ok (z2b l m) w := by
   show (Op.equalIn (9999 + 1) t _ _).run P w = _
   rw [run_equalIn_struct w 9999 t XS YS ht hst, z45 w 9998 XS YS _ 0 l m hok (key x1 x2) (key y1 y2)]
 refine ⟨.bool ((z2b l m) != neg), w, F, ?_, .refl w, fun _ h => h, fun _ h => .inl h, .c (.lf (.v _ rfl))⟩
 cases neg
 · simp only [Bool.false_eq_true, if_false] at hop
   simp only [execOp, hop, he1, he2]
   refine z28 ?_
   simp [run_eqGuard_agg w _ t y z _ _ hg, run_eql_struct, hrun]
 · simp only [if_true] at hop
   simp only [execOp, hop, he1, he2]
   refine z28 ?_
   simp [run_eqGuard_agg w _ t y z _ _ hg, run_neq_struct, hrun]
end
end Go.Sx

namespace Go.Proofs.YtaagjnlkinojcaaGreat
set_option linter.unusedSimpArgs false
set_option linter.unusedVariables false
open Go.Sx
set_option maxRecDepth 10000
abbrev ztz (l : List Int) (p : Nat) : List Leaf := [.ints .u8 l, .v (.int .i64 (p : Int))]
abbrev z7M (l : List Int) (p : Nat) : Av := .c (.lf (.obj (ztz l p)))
abbrev z06 (l : List Int) (p : Nat) : Blk := .cells [.lf (.ints .u8 l), .lf (.v (.int .i64 (p : Int)))]
theorem z8P (l : List Int) (p : Nat) : Ct Tryz.prog 157 [z7M l p] [] (lv (.int .i64 (l.length : Int))) [] [] := by
 refine z00 Tryz.func157 rfl rfl rfl rfl rfl (fun E hn hb => ?_)
 repeat (refine nst ?_)
 exact rt1 []
theorem z1P (l : List Int) (p : Nat) : Ct Tryz.prog 20 [z7M l p] [] (lv (.int .i64 (p : Int))) [] [] := by
 refine z00 Tryz.func20 rfl rfl rfl rfl rfl (fun E hn hb => ?_)
 repeat (refine nst ?_)
 refine z0W (z0A (z2T (neg := false) rfl rfl rfl rfl (by exact vcs)) rfl) (by rw [hn]; rfl) ?_
 repeat (refine nst ?_)
 refine z04 rfl (by simp) (fun h1 => ?_) (fun h1 => ?_)
 · simp at h1
 repeat (refine nst ?_)
 exact rt1 []
theorem z1t (l : List Int) (p : Nat) (hp : p ≤ l.length) (hl : l.length ≤ 9223372036854775807) : Ct Tryz.prog 107 [z7M l p] [] (lv (.int .i64 ((l.length : Int) - (p : Int)))) [] [] := by
 have e : IntKind.i64.wrap ((l.length : Int) - (p : Int)) = (l.length : Int) - (p : Int) := by simp [IntKind.wrap, IntKind.signed, IntKind.bits]; omega
 refine z00 Tryz.func107 rfl rfl rfl rfl rfl (fun E hn hb => ?_)
 repeat (refine nst ?_)
 refine z0W (z0A (z2T (neg := false) rfl rfl rfl rfl (by exact vcs)) rfl) (by rw [hn]; rfl) ?_
 repeat (refine nst ?_)
 refine z04 rfl (by simp) (fun h1 => ?_) (fun h1 => ?_)
 · simp at h1
 repeat (refine nst ?_)
 refine z8V (by kernel_rfl) (by kernel_rfl) (by rw [hn]; rfl) ?_
 repeat (first | refine dp1 ?_ | refine dg1 ?_ | refine z0E ?_)
 refine z1f rfl (z1c (z4o (z8P l p) rfl rfl rfl (by exact vcs) rfl rfl rfl) rfl) ?_
 repeat (first | refine dp1 ?_ | refine dg1 ?_ | refine z0E ?_)
 repeat (refine nst ?_)
 exact rt1 []
def z55 (l : List Int) (p : Nat) (n : Int) : Int := if n < 0 then 1 else if (l.length : Int) - p < n then 3 else 0
theorem ze2 (l : List Int) (p : Nat) (n : Int) (hp : p ≤ l.length) (hl : l.length ≤ 9223372036854775807) : Ct Tryz.prog 206 [z7M l p, lv (.int .i64 n)] [] (lv (.int .i64 (z55 l p n))) [] [] := by
 refine z00 Tryz.func206 rfl rfl rfl rfl rfl (fun E hn hb => ?_)
 repeat (refine nst ?_)
 refine z0W (z0A (z2T (neg := false) rfl rfl rfl rfl (by exact vcs)) rfl) (by rw [hn]; rfl) ?_
 repeat (refine nst ?_)
 refine z04 rfl (by simp) (fun h1 => ?_) (fun h1 => ?_)
 · simp at h1
 repeat (refine nst ?_)
 refine z04 rfl (by simp) (fun h2 => ?_) (fun h2 => ?_)
 · have e : z55 l p n = 1 := by
     have : n < 0 := by simpa using h2
     rw [z55, if_pos this]
   rw [e]
   repeat (refine nst ?_)
   exact rt1 []
 have n2 : ¬ n < 0 := by simpa using h2
 repeat (refine nst ?_)
 refine z1e (z1t l p hp hl) rfl rfl rfl (by rw [hn]; rfl) rfl rfl (by exact vcs) rfl rfl rfl ?_
 repeat (refine nst ?_)
 refine z04 rfl (by simp) (fun h3 => ?_) (fun h3 => ?_)
 · have e : z55 l p n = 3 := by
     have : (l.length : Int) - p < n := by simpa using h3
     rw [z55, if_neg n2, if_pos this]
   rw [e]
   repeat (refine nst ?_)
   exact rt1 []
 · have e : z55 l p n = 0 := by
     have : ¬ (l.length : Int) - p < n := by simpa using h3
     rw [z55, if_neg n2, if_neg this]
   rw [e]
   repeat (refine nst ?_)
   exact rt1 []
theorem zha (l : List Int) (p : Nat) (hp : p < l.length) (hl : l.length ≤ 9223372036854775807) : Ct Tryz.prog 221 [z7M l p] [] (.tup [lv (.int .u8 (l.getD p 0)), lv (.int .i64 0)]) [] [] := by
 refine z00 Tryz.func221 rfl rfl rfl rfl rfl (fun E hn hb => ?_)
 repeat (refine nst ?_)
 refine z0W (z0A (z2T (neg := false) rfl rfl rfl rfl (by exact vcs)) rfl) (by rw [hn]; rfl) ?_
 repeat (refine nst ?_)
 refine z04 rfl (by simp) (fun h1 => ?_) (fun h1 => ?_)
 · simp at h1
 repeat (refine nst ?_)
 refine z1e (z1t l p (by omega) hl) rfl rfl rfl (by rw [hn]; rfl) rfl rfl (by exact vcs) rfl rfl rfl ?_
 repeat (refine nst ?_)
 refine z04 rfl (by simp) (fun h3 => ?_) (fun h3 => ?_)
 · simp at h3; omega
 repeat (refine nst ?_)
 refine z2u 13 (by kernel_rfl) (by kernel_rfl) (by kernel_rfl) (by rw [hn]; rfl) rfl rfl ?_
 repeat (first | refine dp1 ?_ | refine dg1 ?_ | refine z0E ?_)
 repeat (refine nst ?_)
 refine rt2 [] ?_ ?_
 · show Av.tup [lv (.int .u8 (l.getD (p : Int).toNat 0)), lv (.int .i64 0)] = _
   rw [Int.toNat_natCast]
   rfl
 · trivial
theorem zfK (l : List Int) (hl : l.length ≤ 9223372036854775807) : Ct Tryz.prog 221 [z7M l l.length] [] (.tup [lv (.int .u8 0), lv (.int .i64 3)]) [] [] := by
 refine z00 Tryz.func221 rfl rfl rfl rfl rfl (fun E hn hb => ?_)
 repeat (refine nst ?_)
 refine z0W (z0A (z2T (neg := false) rfl rfl rfl rfl (by exact vcs)) rfl) (by rw [hn]; rfl) ?_
 repeat (refine nst ?_)
 refine z04 rfl (by simp) (fun h1 => ?_) (fun h1 => ?_)
 · simp at h1
 repeat (refine nst ?_)
 refine z1e (z1t l l.length (by omega) hl) rfl rfl rfl (by rw [hn]; rfl) rfl rfl (by exact vcs) rfl rfl rfl ?_
 repeat (refine nst ?_)
 refine z04 rfl (by simp) (fun h3 => ?_) (fun h3 => ?_)
 · repeat (refine nst ?_)
   exact rt1 []
 · simp at h3
theorem ze3 (l : List Int) (p a n : Nat) (h : a + n ≤ l.length) (hl : l.length ≤ 16000000) : Ct Tryz.prog 161 [z7M l p, lv (.int .i64 (a : Int)), lv (.int .i64 ((a : Int) + (n : Int)))] [] (.c (.own 0 1 0 n)) [] [.row (.ints .u8 ((l.drop a).take n))] := by
 have e : IntKind.i64.wrap (((a : Int) + (n : Int)) - (a : Int)) = (n : Int) := by simp [IntKind.wrap, IntKind.signed, IntKind.bits]; omega
 have e2 : ((a : Int) + (n : Int)) - (a : Int) = (n : Int) := by omega
 refine z00 Tryz.func161 rfl rfl rfl rfl rfl (fun E hn hb => ?_)
 repeat (refine nst ?_)
 rw [e2]
 refine zbC (by_ := 1) rfl rfl rfl (by rw [hn]; rfl) (z0j Tryz.underlying28 rfl rfl) rfl rfl rfl (by exact vcs) n (by first | rfl | (simp; done) | omega) (by first | (simp; done) | omega | (simp at *; omega)) ?_
 repeat (refine nst ?_)
 have e3 : (List.take ((a : Int) + (n : Int)).toNat l).drop (a : Int).toNat = (l.drop a).take n := by
   rw [show ((a : Int) + (n : Int)).toNat = a + n by omega, Int.toNat_natCast, List.drop_take, Nat.add_sub_cancel_left]
 rw [e3]
 have hx : ((l.drop a).take n).length = n := by simp; omega
 generalize (l.drop a).take n = x at *
 refine zbD rfl rfl rfl rfl rfl rfl (by rw [hn]; rfl) (z0j Tryz.underlying28 rfl rfl) rfl rfl rfl (by exact vcs) (by first | (simp; done) | (simp; omega) | (simp at *; omega)) ?_
 repeat (refine nst ?_)
 refine rt2 [75] ?_ ?_
 · rfl
 · have e4 : List.take n x = x := List.take_of_length_le (by omega)
   have e5 : List.take 0 (List.replicate n (0 : Int)) ++ List.take n x ++ List.drop (0 + (List.take n x).length) (List.replicate n (0 : Int)) = x := by
     rw [e4]; simp; omega
   show Blk.row (.ints .u8 (List.take 0 (List.replicate n (0 : Int)) ++ List.take n x ++ List.drop (0 + (List.take n x).length) (List.replicate n (0 : Int)))) = _ 
   rw [e5]
   rfl
end Go.Proofs.YtaagjnlkinojcaaGreat

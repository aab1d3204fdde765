/-
  The layer's latter part: rows frozen in a struct's cell, calls that are lent data and yield a new row as data, structs compared. No condition.
-/
import Derived.Test.YtaagjnlkinojcaaGreatSxK
import Derived.Laws.StructEq
import Derived.Scope
namespace Go.Sx
open Go
set_option linter.unusedVariables false
set_option linter.unusedSimpArgs false
theorem SRb.freeze0 {E:Env} {β:Nat→Option Nat} {F:Nat→Prop} {σ:St} {a:Act} {w:World} (h:SRb E β F σ a w) {j:Nat} {d:Leaf} (hj:σ.hp j= .row d) (hjn:E.nb≤j):
  SRb E (fun i=>if i=j then none else β i) (fun b=>F b∨β j=some b) (σ.kill j) a w:=by
 have hgone:σ.hp j≠ .gone:=by rw[hj]; intro h; cases h
 have hB:=h.hp j
 rw[hj] at hB
 let β':Nat→Option Nat:=fun i=>if i=j then none else β i
 let F':Nat→Prop:=fun b=>F b∨β j=some b
 have hβ:∀ i,i≠j→β' i=β i:=fun i hi=>if_neg hi
 have hk:=h.kill j hjn
 have hF:∀ b,F b→F' b:=fun b hb=> .inl hb
 -- the state with the block gone, in the greater F
 have hk2:SRb E β' F' (σ.kill j) a w:=by
  refine⟨fun i=>(hk.tm i).mono (fun _ _ h=>h) (fun b hb=>⟨hF b hb,rfl⟩) (fun _ _ h=>h),hk.sz,hk.df,fun i=>?_,hk.inj,fun i g hi e=>?_,hk.lt,fun b hb=>?_,hk.keep,hk.bb,hk.nbl⟩
  ·have:=hk.hp i
   revert this
   cases (σ.kill j).hp i with
   | gone=>exact fun _=>trivial
   | map es=>
     rintro⟨g,ms,ck,e1,e2,e3,e4⟩
     exact⟨g,ms,ck,e1,e2,e3,fun i k x hx=>let ⟨e,q1,q2,q3⟩:=e4 i k x hx; ⟨e,q1,q2,q3.mono fun b hb=>⟨hF b hb,rfl⟩⟩⟩
   | raw g ob=>
     exact fun h=>h
   | mapS g ms ck es=>
     rintro⟨e1,e2,e3,e4⟩
     exact⟨e1,e2,e3,fun i k x hx=>let ⟨e,q1,q2,q3⟩:=e4 i k x hx; ⟨e,q1,q2,q3.mono fun b hb=>⟨hF b hb,rfl⟩⟩⟩
   | cells cs=>
     rintro⟨g,cur,e1,e2,e3,e4⟩
     exact⟨g,cur,e1,e2,e3,fun i x v hx hv=>(e4 i x v hx hv).mono (fun _ _ h=>h) (fun b hb=>⟨hF b hb,rfl⟩) (fun _ _ h=>h)⟩
   | fr vs cs=>
     rintro⟨g,cur,e1,e2,e3,e4⟩
     exact⟨g,cur,e1,e2,e3,fun i x v hx hv=>(e4 i x v hx hv).mono (fun _ _ h=>h) (fun b hb=>⟨hF b hb,rfl⟩) (fun _ _ h=>h)⟩
   | row d=>
     cases d with
     | ints k l=>exact fun h=>h
     | recs sz l=>
       rintro⟨e1,e2⟩
       refine⟨e1,?_⟩
       rcases e2 with e2 |⟨g,cur,e2,e3,e4⟩
       ·exact .inl e2
       ·refine .inr ⟨g,cur,e2,e3,fun i r k x hi hk=>?_⟩
        obtain⟨u,hu,hl⟩:=e4 i r k x hi hk
        exact⟨u,hu,hl.mono fun b hb=>⟨hF b hb,rfl⟩⟩
     | v=>exact fun h=>h
     | obj=>exact fun h=>h
  ·obtain⟨a1,a2,a3⟩:=hk.own i g hi e
   refine⟨a1,a2,?_⟩
   rintro(hf | hf)
   ·exact a3 hf
   ·have e:(if i=j then none else β i)=some g:=e
    by_cases hij:i=j
    ·simp[hij] at e
    ·simp only[hij,if_false] at e
     have hi':σ.hp i≠ .gone:=by
      simp only[St.kill,hij,decide_false] at hi
      exact Blk.kill_ne hi
     exact hij (h.inj i j g hi' hgone e hf)
  ·rcases hb with hb | hb
   ·exact h.fr b hb
   ·obtain⟨a1,a2,a3⟩:=h.own j b hgone hb
    refine⟨a1,?_⟩
    rcases a2 with a2 | a2
    ·exact .inr a2
    ·exact .inl (E.hM0 b a2)
 exact hk2
section
variable {P:Program} {E:Env} {ops:Array Oper} {Q:Exit→Act→World→Prop} {rest:List Oper} {o:Oper} {σ:St} {x:Av}
theorem SR.freezeC {a:Act} {w:World} (j K:Nat) {d:Leaf} {cs cs':List Cell} (hj:σ.hp j= .row d) (hK:σ.hp K= .cells cs) (hne:Nat.beq K j=false) (hjn:E.nb≤j) (hf:z6h d j cs cs') (h:SR E σ a w):
  SR E ((σ.kill j).seth K (.cells cs')) a w:=by
 obtain⟨β,F,h⟩:=h
 have hKj:K≠j:=fun e=>by rw[e] at hne; simp at hne
 have h0:=h.freeze0 hj hjn
 have hB:=h.hp j
 rw[hj] at hB
 have hC:=h.hp K
 rw[hK] at hC
 obtain⟨g,cur,e1,e2,e3,e4⟩:=hC
 obtain⟨h1,h2⟩:=hf.get
 refine⟨_,_,h0.setBlk ?_ ⟨g,cur,(if_neg hKj).trans e1,e2,by omega,fun i c' v hc hv=>?_⟩⟩
 ·show(match decide (K=j) with | true=>Blk.gone | false=>(σ.hp K).kill j)≠ .gone
  simp only[hKj,decide_false,hK]
  intro h; cases h
 ·obtain⟨c,hc2,hfc⟩:=h2 i c' hc
  exact hfc.sound (β':=fun i=>if i=j then none else β i) (F':=fun b=>F b∨β j=some b) hB (fun g hg=> .inr hg) (fun b hb=> .inl hb) (fun i hi=>if_neg hi) (e4 i c v hc2 hv)
theorem zhj {c:Call} {fo:Operand} {f:FuncId} {first cap:List Cell} {pf:List Prop} {xs:List Av} {k:IntKind} {l:List Int} {off len:Nat} (hF:Ct P f xs [] (.c (.own 0 1 off len)) [] [.row (.ints k l)])
  (hop:o.op= .call c) (hcv:c.callee= .value fo) (hfo:ox σ fo=(pf,.c (.fn (.func f) first cap)))
  (hp:z03 (pf++(oxs σ c.args.toList).1)) (hxs:z4b σ (first.map Av.c++(oxs σ c.args.toList).2++cap.map Av.c) xs) (hok:xs.all (Av.ok 0)=true) (hlen0:off+len≤l.length):OpY P E o σ (.c (.lf (.ints k ((l.drop off).take len)))):=by
 intro β F a w hS K Q hK
 have hokx:=List.all_eq_true.1 hok
 obtain⟨hle,hlend⟩:=hxs.get
 have hfv:=oxR hS fo
 rw[hfo] at hfv
 have hfv:=hfv hp.left
 generalize hv:a.eval fo=fv at hfv
 cases hfv with | c hfv=>cases hfv with | fn _ _ _ f1 c1 n1 n2 r1 r2=>
 obtain⟨l1,l2⟩:=z59 hS c.args.toList hp.right
 have hrun:(execOp a.eval o).run P w= .ok (.enter f (f1++c.args.map a.eval++c1)) w:=by
  simp only[execOp,hop,resolve,hcv,hv,Deferred.ofValue,Sem.run_bind,Sem.run_pure,Result.andThen_ok,invoke]
  exact z22 hF.2.1
 unfold Oper.wp
 rw[hrun,Oper.upon_enter]
 have hargs:∀(i:Nat) (x:Av) (v:Value),xs[i]? =some x→(f1++c.args.map a.eval++c1).toList[i]? =some v→AvR (fun _=>none) (fun b=>F b∨∃ j,σ.hp j≠ .gone∧β j=some b) w x v:=by
  intro i x v hx hv
  obtain⟨y,hy,hl⟩:=hlend i x hx
  have key:AvR β F w y v:=by
   simp only[Array.toList_append,List.append_assoc] at hv
   rw[List.append_assoc] at hy
   rcases Nat.lt_or_ge i first.length with h | h
   ·rw[List.getElem?_append_left (by simpa using h)] at hy
    rw[List.getElem?_append_left (by simp[n1]; exact h)] at hv
    rw[List.getElem?_map,Option.map_eq_some_iff] at hy
    obtain⟨x,hx,rfl⟩:=hy
    exact .c (r1 i x v hx (by simpa using hv))
   ·rw[List.getElem?_append_right (by simpa using h)] at hy
    rw[List.getElem?_append_right (by simp[n1]; exact h)] at hv
    simp only[List.length_map,Array.length_toList,n1] at hy hv
    rcases Nat.lt_or_ge (i -first.length) c.args.toList.length with h' | h'
    ·rw[List.getElem?_append_left (by rw[l1]; exact h')] at hy
     rw[List.getElem?_append_left (by simpa using h')] at hv
     exact l2 _ y v hy (by simpa using hv)
    ·rw[List.getElem?_append_right (by rw[l1]; exact h')] at hy
     rw[List.getElem?_append_right (by simpa using h')] at hv
     rw[List.getElem?_map,Option.map_eq_some_iff] at hy
     obtain⟨x,hx,rfl⟩:=hy
     refine .c (r2 _ x v hx ?_)
     simp only[l1] at hx
     simpa[l1] using hv
  have:=AvR.ren (β:=fun _=>none) (ρ:=id) (n:=0) (fun i h=>absurd h (Nat.not_lt_zero _)) (hl.sound hS key) (hokx x (List.mem_of_getElem? hx))
  rwa[Av.ren_id] at this
 have hlen:(f1++c.args.map a.eval++c1).toList.length=xs.length:=by
  rw[←hle]
  simp[n1,n2,l1]
 have hcall:=hF.2.2 w (fun _=>none) _ (f1++c.args.map a.eval++c1).toList hlen hargs (fun i b h=>by simp at h) (fun i j g h=>absurd h (Nat.not_lt_zero _)) (fun j g h=>absurd h (Nat.not_lt_zero _)) (fun _ _=>rfl) (fun b hb=>by
  rcases hb with hb |⟨j,_,hj⟩
  ·exact(hS.fr b hb).1
  ·exact hS.lt j b hj) hS.gd0
 rw[Array.toArray_toList] at hcall
 refine hcall.mono fun e w' hq=>?_
 obtain⟨v,β',F',rfl,hres,_,hnews,hout⟩:=hq
 have hg:Grow w w':=⟨hout.keep.os,hout.keep.tape,hout.keep.output,hout.keep.size,fun k hk=>hout.keep.block k hk (by rintro⟨i,hi,_⟩; exact absurd hi (Nat.not_lt_zero _))⟩
 have hB:=hnews 0 _ rfl
 have hv2:CellR (fun _=>none) (fun b=>F b∨β' 0=some b) w' (.lf (.ints k ((l.drop off).take len))) v:=by
  cases hres with | c hres=>cases hres with | own _ _ _ _ ad cp hc hm h=>
  have hh:CellR (fun i=>if i=0 then none else β' i) (fun b=>F b∨β' 0=some b) w' (.lf (.ints k ((l.drop off).take len))) _:=
   z9a.sound (β:=β') (F:=F) (j:=0) (d:= .ints k l) (c:= .own 0 1 off len) hB (fun g hg=> .inr hg) (fun b hb=> .inl hb) (fun i hi=>if_neg hi) ⟨rfl,rfl,rfl,hlen0,rfl⟩ (.own _ _ _ _ _ _ hc hm h)
  cases hh with | lf hh=>exact .lf hh
 refine hK v w' (fun b=>F b∨β' 0=some b) hg (fun b h=> .inl h) (fun b hb=>?_) (.c (by cases hv2 with | lf hh=>exact .lf hh))
 rcases hb with hb | hb
 ·exact .inl hb
 ·have h1:=hout.own 0 b (by simp) hb
  have h2:=hout.new 0 b (by simp) hb
  exact .inr ⟨h2,h1.1⟩
theorem z9Y {c:Call} {fo:Operand} {f:FuncId} {first cap:List Cell} {pf:List Prop} {xs:List Av} {k:IntKind} {l:List Int} {off len:Nat} (hF:Ct P f xs [] (.c (.own 0 1 off len)) [] [.row (.ints k l)])
  (hop:o.op= .call c) (hcv:c.callee= .value fo) (hfo:ox σ fo=(pf,.c (.fn (.func f) first cap)))
  (hp:z03 (pf++(oxs σ c.args.toList).1)) (hxs:z4b σ (first.map Av.c++(oxs σ c.args.toList).2++cap.map Av.c) xs) (hok:xs.all (Av.ok 0)=true) (hlen:off+len≤l.length):z4V P E ops o σ (.c (.lf (.ints k ((l.drop off).take len)))):=by
 intro τ hl
 have hx:=hl.ox
 have e1:ox τ fo=ox σ fo:=hx fo (by rw[hop]; simp[Op.operands,Call.operands,hcv])
 have e2:oxs τ c.args.toList=oxs σ c.args.toList:=z4g hx _ fun y hy=>by
  rw[hop]; simp only[Op.operands,Call.operands]; simp at hy ⊢; first | exact .inr hy | exact .inl hy | simp[hy]
 exact zhj hF hop hcv (by rw[e1]; exact hfo) (by rw[e2]; exact hp) (by rw[e2]; exact z9k hl.hp hxs) hok hlen
def z2u:List Cell→List Cell→Bool
 | .lf (.v (.int _ a))::xs,.lf (.v (.int _ b))::ys=>(a==b)&&z2u xs ys
 | .lf (.v (.bool a))::xs,.lf (.v (.bool b))::ys=>(a==b)&&z2u xs ys
 | _,_=>true
def zay (P:Program):List Field→Nat→List Cell→List Cell→Prop
 | [],_,[],[]=>True
 | f::fs,i,.lf (.v (.int k a))::xs,.lf (.v (.int k' b))::ys=>(f.name≠ "_" ∧f.offset=i∧k=k'∧P.cellsOf f.type=1∧∃ k2,P.underlying f.type=some (.int k2))∧zay P fs (i+1) xs ys
 | f::fs,i,.lf (.v (.bool a))::xs,.lf (.v (.bool b))::ys=>(f.name≠ "_" ∧f.offset=i∧P.cellsOf f.type=1∧P.underlying f.type=some .bool)∧zay P fs (i+1) xs ys
 | _,_,_,_=>False
theorem z5A {e:TypeId} (he:(P.underlying e).isSome=true) (hi:(P.info? e).isSome=true) (ha:z2w P e=false) (w:World) (XS:Array Value) (v:Value) (i:Nat) (h:XS[i]? =some v):
  (part e XS i).run P w= .ok v w:=by
 have hlt:=(Array.getElem?_eq_some_iff.1 h).1
 have hv:XS.getD i undef=v:=by simp[Array.getD_eq_getD_getElem?,h]
 simp[part,z1Q he,ha,hlt,←hv]
theorem z50 (w:World) (d:Nat) (XS YS:Array Value):∀(fs:List Field) (i:Nat) (xs ys:List Cell),zay P fs i xs ys→(∀(j:Nat) (x:Value),xs[j]? =some (.lf (.v x))→XS[i+j]? =some x)→(∀(j:Nat) (x:Value),ys[j]? =some (.lf (.v x))→YS[i+j]? =some x)→
  (Op.eqFields (d+1) XS YS fs).run P w= .ok (z2u xs ys) w
 | [],i,xs,ys,h,hx,hy=>by
   match xs,ys,h with
   | [],[],_=>simp[Op.eqFields,z2u]
 | f::fs,i,xs,ys,h,hx,hy=>by
   match xs,ys,h with
   | .lf (.v (.int k a))::xs,.lf (.v (.int k' b))::ys,⟨⟨h1,h2,h3,h4,k2,h5⟩,h6⟩=>
     subst h3
     have ih:=z50 w d XS YS fs (i+1) xs ys h6 (fun j x hj=>by rw[show i+1+j=i+(j+1) by omega]; exact hx (j+1) x (by simpa using hj)) (fun j x hj=>by rw[show i+1+j=i+(j+1) by omega]; exact hy (j+1) x (by simpa using hj))
     have hx0:=hx 0 _ rfl
     have hy0:=hy 0 _ rfl
     rw[Nat.add_zero] at hx0 hy0
     have hi:=z0J (P:=P) (t:=f.type) (by rw[h4]; decide)
     have ht:z2w P f.type=false:=by simp[z2w,h5]
     have hs:(P.underlying f.type).isSome=true:=by simp[h5]
     simp only[Op.eqFields,h1,ne_eq,not_false_eq_true,if_true,h2,Sem.run_bind,z5A hs hi ht w XS _ i hx0,z5A hs hi ht w YS _ i hy0,Result.andThen_ok,run_equalIn_int w d f.type k k2 a b h5]
     cases hab:(a==b) with
     | true=>simp only[Bool.not_true,Bool.false_eq_true,if_false,ih,z2u,hab,Bool.true_and]
     | false=>simp only[Bool.not_false,if_true,Sem.run_pure,z2u,hab,Bool.false_and]
   | .lf (.v (.bool a))::xs,.lf (.v (.bool b))::ys,⟨⟨h1,h2,h4,h5⟩,h6⟩=>
     have ih:=z50 w d XS YS fs (i+1) xs ys h6 (fun j x hj=>by rw[show i+1+j=i+(j+1) by omega]; exact hx (j+1) x (by simpa using hj)) (fun j x hj=>by rw[show i+1+j=i+(j+1) by omega]; exact hy (j+1) x (by simpa using hj))
     have hx0:=hx 0 _ rfl
     have hy0:=hy 0 _ rfl
     rw[Nat.add_zero] at hx0 hy0
     have hi:=z0J (P:=P) (t:=f.type) (by rw[h4]; decide)
     have ht:z2w P f.type=false:=by simp[z2w,h5]
     have hs:(P.underlying f.type).isSome=true:=by simp[h5]
     simp only[Op.eqFields,h1,ne_eq,not_false_eq_true,if_true,h2,Sem.run_bind,z5A hs hi ht w XS _ i hx0,z5A hs hi ht w YS _ i hy0,Result.andThen_ok,run_equalIn_bool' w d f.type a b h5]
     cases hab:(a==b) with
     | true=>simp only[Bool.not_true,Bool.false_eq_true,if_false,ih,z2u,hab,Bool.true_and]
     | false=>simp only[Bool.not_false,if_true,Sem.run_pure,z2u,hab,Bool.false_and]
theorem zaz {t t':TypeId} {neg:Bool} {y z:Operand} {p q:List Prop} {l m:List Cell} (hop:o.op= .binOp (if neg then .neq else .eql) t y z t') (ht:P.underlying t=some (.struct (P.fieldsOf t))) (hst:P.stoodInHeld t=false)
  (hy:ox σ y=(p,.agg l)) (hz:ox σ z=(q,.agg m)) (hp:z03 (p++q)) (hg:P.eqGuardType P.depth t=false) (hok:zay P (P.fieldsOf t).toList 0 l m):OpY P E o σ (lv (.bool ((z2u l m)!=neg))):=by
 refine z3D fun β F a w hS=>?_
 have h1:=oxR hS y
 rw[hy] at h1
 have h1:=h1 hp.left
 have h2:=oxR hS z
 rw[hz] at h2
 have h2:=h2 hp.right
 generalize he1:a.eval y=v1 at h1
 generalize he2:a.eval z=v2 at h2
 dsimp only at h1 h2
 cases h1 with | agg _ XS x1 x2=>
 cases h2 with | agg _ YS y1 y2=>
 have key:∀ {cs:List Cell} {CS:Array Value},CS.size=cs.length→(∀(i:Nat) (x:Cell) (v:Value),cs[i]? =some x→CS[i]? =some v→CellR β F w x v)→∀(j:Nat) (x:Value),cs[j]? =some (.lf (.v x))→CS[0+j]? =some x:=by
  intro cs CS h1 h2 j x hj
  have hlt:=(List.getElem?_eq_some_iff.1 hj).1
  have:=h2 j _ CS[j] hj (by simp[h1,hlt])
  rw[Nat.zero_add]
  generalize hu:CS[j]=u at this
  cases this with | lf h=>cases h with | v _ h=>simp[h1,hlt,hu]
 have hrun:(Op.equalIn 10000 t (.agg XS) (.agg YS)).run P w= .ok (z2u l m) w:=by
  show(Op.equalIn (9999+1) t _ _).run P w=_
  rw[run_equalIn_struct w 9999 t XS YS ht hst,z50 w 9998 XS YS _ 0 l m hok (key x1 x2) (key y1 y2)]
 refine⟨.bool ((z2u l m)!=neg),w,F,?_,.refl w,fun _ h=>h,fun _ h=> .inl h,.c (.lf (.v _ rfl))⟩
 cases neg
 ·simp only[Bool.false_eq_true,if_false] at hop
  simp only[execOp,hop,he1,he2]
  refine z2x ?_
  simp[run_eqGuard_agg w _ t y z _ _ hg,run_eql_struct,hrun]
 ·simp only[if_true] at hop
  simp only[execOp,hop,he1,he2]
  refine z2x ?_
  simp[run_eqGuard_agg w _ t y z _ _ hg,run_neq_struct,hrun]
end
end Go.Sx

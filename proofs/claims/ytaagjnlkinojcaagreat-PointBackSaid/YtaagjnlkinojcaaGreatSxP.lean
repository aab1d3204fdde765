/-
  The layer's latter part: arrays of numbers, contracts over rows that are lent as data, rows that are appended to in place or anew, cells that are forgotten or named. No condition.
-/
import Derived.Test.YtaagjnlkinojcaaGreatSxX
import Derived.ChangeKeysEq
import Derived.Lib.SlBytesConst
namespace Go.Sx
open Go
set_option linter.unusedVariables false
set_option linter.unusedSimpArgs false
section
variable {P:Program} {E:Env} {ops:Array Oper} {Q:Exit→Act→World→Prop} {rest:List Oper} {o:Oper} {σ:St} {x:Av}
@[simp] theorem zxV:IntKind.u8.bits=8:=rfl
@[simp] theorem zxt:IntKind.u32.bits=32:=rfl
@[simp] theorem zxu:IntKind.u64.bits=64:=rfl
@[simp] theorem zxv:IntKind.i64.bits=64:=rfl
def z3a:Av→Bool
 | .c (.ptr _ _)=>true
 | .c (.pel _ _ _ _)=>true
 | .c (.tptr _ _)=>true
 | .c (.lf (.obj _))=>true
 | _=>false
theorem zcd {t e:TypeId} (ht:P.underlying t=some (.pointer e)) (w:World) (d:Nat) (ad:Addr):(Op.equalIn (d+1) t (.pointer (some ad)) (.pointer none)).run P w= .ok false w:=by
 simp[Op.equalIn,run_underlying ht]
theorem z4f {t t' e:TypeId} {neg:Bool} {y:Operand} {p:List Prop} {v:Av} (hop:o.op= .binOp (if neg then .neq else .eql) t y (.const (.pointer none)) t') (ht:P.underlying t=some (.pointer e)) (hy:ox σ y=(p,v)) (hv:z3a v=true) (hp:z03 p):
  OpY P E o σ (lv (.bool neg)):=by
 refine z3D fun β F a w hS=>?_
 have h1:=oxR hS y
 rw[hy] at h1
 have h1:=h1 hp
 have:∃ ad,a.eval y= .pointer (some ad):=by
  generalize a.eval y=u at h1
  dsimp only at h1
  cases h1 with
  | c h=>cases h with
    | lf h=>cases h with
      | obj=>exact⟨_,rfl⟩
      | v=>simp[z3a] at hv
      | ints=>simp[z3a] at hv
      | recs=>simp[z3a] at hv
    | ptr=>exact⟨_,rfl⟩
    | pel=>exact⟨_,rfl⟩
    | tptr=>exact⟨_,rfl⟩
    | map=>simp[z3a] at hv
    | town=>simp[z3a] at hv
    | un=>simp[z3a] at hv
    | own=>simp[z3a] at hv
    | fn=>simp[z3a] at hv
    | bnd=>simp[z3a] at hv
  | any=>simp[z3a] at hv
  | agg=>simp[z3a] at hv
  | ai=>simp[z3a] at hv
  | tup=>simp[z3a] at hv
  | cnd=>simp[z3a] at hv
 obtain⟨ad,had⟩:=this
 refine⟨.bool neg,w,F,?_,.refl w,fun _ h=>h,fun _ h=> .inl h,.c (.lf (.v _ rfl))⟩
 have hrun:(Op.equal t (.pointer (some ad)) (.pointer none)).run P w= .ok false w:=by
  exact zcd ht w 9999 ad
 have hev:a.eval (.const (.pointer none))= .pointer none:=rfl
 cases neg
 ·simp only[Bool.false_eq_true,if_false] at hop
  simp only[execOp,hop,had,hev]
  refine z2x ?_
  simp[eqGuard,binOp,hrun]
 ·simp only[if_true] at hop
  simp only[execOp,hop,had,hev]
  refine z2x ?_
  simp[eqGuard,binOp,hrun]
def z5N:List Cell→Option (List Leaf)
 | []=>some []
 | .lf x::l=>match z5N l with | some r=>some (x::r) | none=>none
 | _=>none
theorem z9y:∀ {cs:List Cell} {l:List Leaf},z5N cs=some l→∀ i:Nat,cs[i]? =(l[i]?).map Cell.lf
 | [],l,h,i=>by simp[z5N] at h; subst h; simp
 | c::cs,l,h,i=>by
   cases c with
   | lf x=>
     simp only[z5N] at h
     split at h
     ·rename_i r hr
      simp only[Option.some.injEq] at h
      subst h
      cases i with
      | zero=>rfl
      | succ i=>simpa using z9y hr i
     ·cases h
   | _=>simp[z5N] at h
def z96 (σ:St) (y x:Av):Prop:=
 y=x∨(∃ j off len k L,y= .c (.own j 1 off len)∧σ.hp j= .row (.ints k L)∧off+len≤L.length∧x= .c (.lf (.ints k ((L.drop off).take len))))∨
  ∃ j off cs L,y= .c (.ptr j off)∧σ.hp j= .cells cs∧z5N cs=some L∧x= .c (.lf (.obj (L.drop off)))
def z4b (σ:St):List Av→List Av→Prop
 | [],[]=>True
 | y::ys,x::xs=>z96 σ y x∧z4b σ ys xs
 | _,_=>False
theorem z4b.get {σ:St}:∀ {ys xs:List Av},z4b σ ys xs→ys.length=xs.length∧∀(i:Nat) (x:Av),xs[i]? =some x→∃ y,ys[i]? =some y∧z96 σ y x
 | [],[],_=>⟨rfl,fun i x h=>by simp at h⟩
 | y::ys,x::xs,h=>by
   obtain⟨h1,h2⟩:=h
   obtain⟨h3,h4⟩:=z4b.get h2
   refine⟨by simp[h3],fun i z hz=>?_⟩
   cases i with
   | zero=>simp at hz; subst hz; exact⟨y,rfl,h1⟩
   | succ i=>simpa using h4 i z (by simpa using hz)
 | [],_::_,h=>h.elim
 | _::_,[],h=>h.elim
theorem z96.sound {E:Env} {β:Nat→Option Nat} {F:Nat→Prop} {σ:St} {a:Act} {w:World} (hS:SRb E β F σ a w) {y x:Av} {v:Value} (h:z96 σ y x) (hv:AvR β F w y v):
  AvR β (fun b=>F b∨∃ j,σ.hp j≠ .gone∧β j=some b) w x v:=by
 have hm:AvR β (fun b=>F b∨∃ j,σ.hp j≠ .gone∧β j=some b) w y v:=hv.mono (fun _ _ h=>h) (fun b hb=>⟨.inl hb,rfl⟩) (fun _ _ h=>h)
 rcases h with rfl |⟨j,off,len,k,L,rfl,hj,hl,rfl⟩ |⟨j,off,cs,L,rfl,hj,hL,rfl⟩
 ·exact hm
 ·cases hm with | c hm=>cases hm with | own _ _ _ _ ad cap h1 h2 h3=>
  have hB:=hS.hp j
  rw[hj] at hB
  have hln:len=((L.drop off).take len).length:=by simp; omega
  refine .c (.lf (.ints k _ ad len cap hln h1 h2 fun hne=>?_))
  have hpos:0<len:=by rw[hln]; exact List.length_pos_iff.2 hne
  rcases h3 with h3 |⟨g,hg,had,hcap⟩
  ·omega
  ·rcases hB with ⟨h0,_⟩ |⟨g',cur,hg',hrow,hcc⟩
   ·subst h0; simp at hl; omega
   ·rw[hg] at hg'
    obtain rfl:=Option.some.inj hg'
    refine⟨g,off,had,.inr ⟨j,(by rw[hj]; intro h; cases h),hg⟩,fun i x hx=>?_⟩
    rw[hrow.cell]
    have hlt:=(List.getElem?_eq_some_iff.1 hx).1
    rw[List.getElem?_take,List.getElem?_drop] at hx
    split at hx
    ·exact hcc _ _ hx
    ·cases hx
 ·cases hm with | c hm=>cases hm with | ptr _ _ g hg=>
  have hB:=hS.hp j
  rw[hj] at hB
  obtain⟨g',cur,hg',hrow,hsz,hcc⟩:=hB
  rw[hg] at hg'
  obtain rfl:=Option.some.inj hg'
  have hget:∀ i x,(L.drop off)[i]? =some x→∃ u,cur[off+i]? =some u∧LfR F w x u:=by
   intro i x hx
   rw[List.getElem?_drop] at hx
   have h1:cs[off+i]? =some (.lf x):=by rw[z9y hL,hx]; rfl
   have hlt:off+i<cur.size:=Nat.lt_of_lt_of_le (List.getElem?_eq_some_iff.1 h1).1 hsz
   refine⟨cur[off+i],by simp[hlt],?_⟩
   have:=hcc (off+i) (.lf x) cur[off+i] h1 (by simp[hlt])
   cases this with | lf h=>exact h
  refine .c (.lf (.obj _ g off (fun i=>(cur[off+i]?).getD undef) (.inr ⟨j,(by rw[hj]; intro h; cases h),hg⟩) (fun i x hx=>?_) (fun i x hx=>?_)))
  ·obtain⟨u,hu,_⟩:=hget i x hx
   rw[hrow.cell,hu]; rfl
  ·obtain⟨u,hu,hl⟩:=hget i x hx
   rw[hu]
   exact hl.mono fun b hb=>⟨.inl hb,rfl⟩
def z5O:Cell→Bool
 | .lf (.v _)=>true
 | _=>false
def z5i:Av→Bool
 | .c x=>z5O x
 | .agg xs=>xs.all z5O
 | .ai _ _=>true
 | _=>false
def z44:Av→Bool
 | .tup xs=>xs.all z5i
 | x=>z5i x
theorem z9z {β β':Nat→Option Nat} {F F':Nat→Prop} {w w':World} {x:Cell} {v:Value} (hx:z5O x=true) (h:CellR β F w x v):CellR β' F' w' x v:=by
 cases h with
 | lf h=>cases h with
   | v _ h=>exact .lf (.v _ h)
   | _=>simp[z5O] at hx
 | _=>simp[z5O] at hx
theorem z6Y {β β':Nat→Option Nat} {F F':Nat→Prop} {w w':World} {x:Av} {v:Value} (hx:z5i x=true) (h:AvR β F w x v):AvR β' F' w' x v:=by
 cases h with
 | c h=>exact .c (z9z hx h)
 | any=>simp[z5i,z5O] at hx
 | agg xs cs h1 h=>exact .agg xs cs h1 fun i x v hi hv=>z9z (List.all_eq_true.1 hx x (List.mem_of_getElem? hi)) (h i x v hi hv)
 | ai k l=>exact .ai k l
 | tup=>simp[z5i] at hx
 | cnd=>simp[z5i] at hx
theorem z9A {β β':Nat→Option Nat} {F F':Nat→Prop} {w w':World} {x:Av} {v:Value} (hx:z44 x=true) (h:AvR β F w x v):AvR β' F' w' x v:=by
 cases h with
 | tup xs cs h1 h=>exact .tup xs cs h1 fun i x v hi hv=>z6Y (List.all_eq_true.1 hx x (List.mem_of_getElem? hi)) (h i x v hi hv)
 | c h=>exact z6Y hx (.c h)
 | any v=>simp[z44,z5i,z5O] at hx
 | agg xs cs h1 h=>exact z6Y hx (.agg xs cs h1 h)
 | ai k l=>exact .ai k l
 | cnd=>simp[z44,z5i] at hx
theorem z1J {c:Call} {fo:Operand} {f:FuncId} {first cap:List Cell} {pf:List Prop} {xs:List Av} {res:Av} (hF:Ct P f xs [] res [] [])
  (hop:o.op= .call c) (hcv:c.callee= .value fo) (hfo:ox σ fo=(pf,.c (.fn (.func f) first cap)))
  (hp:z03 (pf++(oxs σ c.args.toList).1)) (hxs:z4b σ (first.map Av.c++(oxs σ c.args.toList).2++cap.map Av.c) xs) (hok:(xs.all (Av.ok 0)&&z44 res)=true):OpY P E o σ res:=by
 intro β F a w hS K Q hK
 simp only[Bool.and_eq_true,List.all_eq_true] at hok
 obtain⟨hle,hlend⟩:=hxs.get
 have hfv:=oxR hS fo
 rw[hfo] at hfv
 have hfv:=hfv hp.left
 generalize hv:a.eval fo=fv at hfv
 cases hfv with | c hfv=>cases hfv with | fn _ _ _ f1 c1 n1 n2 r1 r2=>
 obtain⟨l1,l2⟩:=z59 hS c.args.toList hp.right
 have hrun:(execOp a.eval o).run P w= .ok (.enter f (f1++c.args.map a.eval++c1)) w:=by
  simp only[execOp,hop,resolve,hcv,hv,Deferred.ofValue,Sem.run_bind,Sem.run_pure,Result.andThen_ok,invoke]
  exact z22 hF.2.1
 unfold Oper.wp
 rw[hrun,Oper.upon_enter]
 have hargs:∀(i:Nat) (x:Av) (v:Value),xs[i]? =some x→(f1++c.args.map a.eval++c1).toList[i]? =some v→AvR (fun _=>none) (fun b=>F b∨∃ j,σ.hp j≠ .gone∧β j=some b) w x v:=by
  intro i x v hx hv
  obtain⟨y,hy,hl⟩:=hlend i x hx
  have key:AvR β F w y v:=by
   simp only[Array.toList_append,List.append_assoc] at hv
   rw[List.append_assoc] at hy
   rcases Nat.lt_or_ge i first.length with h | h
   ·rw[List.getElem?_append_left (by simpa using h)] at hy
    rw[List.getElem?_append_left (by simp[n1]; exact h)] at hv
    rw[List.getElem?_map,Option.map_eq_some_iff] at hy
    obtain⟨x,hx,rfl⟩:=hy
    exact .c (r1 i x v hx (by simpa using hv))
   ·rw[List.getElem?_append_right (by simpa using h)] at hy
    rw[List.getElem?_append_right (by simp[n1]; exact h)] at hv
    simp only[List.length_map,Array.length_toList,n1] at hy hv
    rcases Nat.lt_or_ge (i -first.length) c.args.toList.length with h' | h'
    ·rw[List.getElem?_append_left (by rw[l1]; exact h')] at hy
     rw[List.getElem?_append_left (by simpa using h')] at hv
     exact l2 _ y v hy (by simpa using hv)
    ·rw[List.getElem?_append_right (by rw[l1]; exact h')] at hy
     rw[List.getElem?_append_right (by simpa using h')] at hv
     rw[List.getElem?_map,Option.map_eq_some_iff] at hy
     obtain⟨x,hx,rfl⟩:=hy
     refine .c (r2 _ x v hx ?_)
     simp only[l1] at hx
     simpa[l1] using hv
  have:=AvR.ren (β:=fun _=>none) (ρ:=id) (n:=0) (fun i h=>absurd h (Nat.not_lt_zero _)) (hl.sound hS key) (hok.1 x (List.mem_of_getElem? hx))
  rwa[Av.ren_id] at this
 have hlen:(f1++c.args.map a.eval++c1).toList.length=xs.length:=by
  rw[←hle]
  simp[n1,n2,l1]
 have hcall:=hF.2.2 w (fun _=>none) _ (f1++c.args.map a.eval++c1).toList hlen hargs (fun i b h=>by simp at h) (fun i j g h=>absurd h (Nat.not_lt_zero _)) (fun j g h=>absurd h (Nat.not_lt_zero _)) (fun _ _=>rfl) (fun b hb=>by
  rcases hb with hb |⟨j,_,hj⟩
  ·exact(hS.fr b hb).1
  ·exact hS.lt j b hj) hS.gd0
 rw[Array.toArray_toList] at hcall
 refine hcall.mono fun e w' hq=>?_
 obtain⟨v,β',F',rfl,hres,_,_,hout⟩:=hq
 have hg:Grow w w':=⟨hout.keep.os,hout.keep.tape,hout.keep.output,hout.keep.size,fun k hk=>hout.keep.block k hk (by rintro⟨i,hi,_⟩; exact absurd hi (Nat.not_lt_zero _))⟩
 exact hK v w' F hg (fun b h=>h) (fun b hb=> .inl hb) (z9A hok.2 hres)
theorem z6a {t e:TypeId} {by_:Nat} {c:Call} {x y:Operand} {px qs:List Prop} {j off len:Nat} {k:IntKind} {l l2:List Int} (K:Nat) (hop:o.op= .call c) (hc:c.callee= .builtin .append) (ha:c.args.toList= [x,y]) (hty:c.argTypes.toList= [t,t]) (hg:o.guard=none) (hd:z0e E.n o.dst=true)
  (hE:Elt P t e 1 by_) (hx:ox σ x=(px,.c (.own j 1 off len))) (hb:σ.hp j= .row (.ints k l)) (hK64:Nat.ble 64 K=true) (hy:z1B σ (ox σ y)=some (qs,.ints k l2)) (hp:z03 (px++qs)) (hlen:off+len≤l.length)
  (hlim:len+l2.length≤4294967296∧by_≤4096)
  (hk1:WL P E ops Q rest ((σ.seth j (.row (.ints k (l.take (off+len)++l2)))).put o.dst (.c (.own j 1 off (len+l2.length)))))
  (hk2:WL P E ops Q rest (((σ.kill K).seth K (.row (.ints k ((l.take (off+len)).drop off++l2)))).put o.dst (.c (.own K 1 0 (len+l2.length))))):WL P E ops Q (o::rest) σ:=by
 intro a w hS
 obtain⟨β,F,hS⟩:=hS
 have hv1:=oxR hS x
 rw[hx] at hv1
 have hv1:=hv1 hp.left
 obtain⟨ad,m,cs,news,hv2,hm,hmc,hr2,hcell⟩:=z3p hS hy hp.right (oxR hS y)
 have hca:c.args= #[x,y]:=by apply Array.toList_inj.1; simpa using ha
 have hct:c.argTypes= #[t,t]:=by apply Array.toList_inj.1; simpa using hty
 generalize he1:a.eval x=v1 at hv1
 dsimp only at hv1
 cases hv1 with | c hv1=>cases hv1 with | own _ _ _ _ ao cap hlc hmx hh=>
 obtain⟨hl1,hl2⟩:=hlim
 obtain⟨ht,i,z,hi,hz,hsz,hby,hzs⟩:=hE
 have hKn:E.nb≤K:=by have:=hS.nbl; have:64≤K:=by simpa using hK64
                     omega
 have hgone:σ.hp j≠ .gone:=by rw[hb]; intro h; cases h
 have hB:=hS.hp j
 rw[hb] at hB
 simp only[RC] at hr2
 simp only[z0f] at hm
 have hnl:news.length=m:=by rw[hr2,List.length_map,hm]
 have hbytes:(len+m)*by_≤140737488355328:=by
  have:(len+m)*by_≤4294967296*4096:=Nat.mul_le_mul (by omega) hl2
  omega
 have h63:len+m≤maxLen:=by simp only[maxLen]; omega
 have hone:∀ v,v ∈ news→v.oneCell'=true:=by
  rw[hr2]
  intro v hv
  obtain⟨_,_,rfl⟩:=List.mem_map.1 hv
  rfl
 obtain⟨olds,ho1,ho2,ho3⟩:∃ olds,olds=((l.take (off+len)).drop off).map (Value.int k)∧olds.length=len∧∀ g cur,β j=some g→Row w g cur→∀(i:Nat) (v:Value),olds[i]? =some v→cur[off+i]? =some v:=by
  refine⟨_,rfl,by simp; omega,fun g cur hg' hrow i v hv=>?_⟩
  rw[List.getElem?_map,Option.map_eq_some_iff] at hv
  obtain⟨u,hu,rfl⟩:=hv
  rw[List.getElem?_drop,List.getElem?_take] at hu
  split at hu
  ·rcases hB with ⟨h0,_⟩ |⟨g2,cur2,h1,h2,h3⟩
   ·subst h0; simp at hu
   ·rw[hg'] at h1
    obtain rfl:=Option.some.inj h1
    have:cur2=cur:=by
     obtain⟨t1,f1,k1,_⟩:=hrow
     obtain⟨t2,f2,k2,_⟩:=h2
     rw[k1] at k2
     simp only[Option.some.injEq,Obj.cells.injEq] at k2
     exact k2.1.symm
    subst this
    exact h3 _ _ hu
  ·cases hu
 have hnone:ad=none→m=0:=fun h=>by
  rcases Nat.eq_zero_or_pos m with h0 | h0
  ·exact h0
  ·have hne:news≠ []:=by intro h'; rw[h'] at hnl; simp at hnl; omega
   obtain⟨b,o',h1,_⟩:=hcell hne
   rw[h] at h1; cases h1
 refine wpList_plain hg fun KK hKK=>?_
 unfold Oper.wp
 by_cases hroom:len+m≤cap
 ·rcases hh with rfl |⟨g,hgj,rfl,hcap⟩
  · -- nothing at all
    have hl0:len=0:=by omega
    have hm0:m=0:=by omega
    subst hl0
    have hl20:l2= []:=List.eq_nil_of_length_eq_zero (by omega)
    subst hl20
    have hrun:(Builtin.append_ #[t,t] o.type #[.slice ao 0 0,.slice ad m cs]).run P w= .ok (.slice ao 0 0) w:=by
     subst hm0
     have hfc:(Builtin.firstCells 1 0 (.slice ad 0 cs)).run P w= .ok #[] w:=by
      cases ad with
      | none=>simp[Builtin.firstCells]
      | some b=>simp[Builtin.firstCells,loadCells,loadCellsFrom]
     cases ao with
     | none=>simp[Builtin.append_,run_underlying ht,sizeOf,typeInfo,hi,hsz,Builtin.lenOf,hfc]
     | some b=>simp[Builtin.append_,run_underlying ht,sizeOf,typeInfo,hi,hsz,Builtin.lenOf,hfc,storeCells]
    rw[z0K hop hc hca hct (by rw[he1,hv2]; exact hrun)]
    refine hKK _ _ (hk1 _ _ ⟨β,F,SRb.put ?_ (.c (.own _ _ _ _ _ _ (by simp) (by decide) (.inl rfl))) (z0x hd)⟩)
    have hblk:z0p β F w j (.row (.ints k (l.take (off+0)++ []))):=by
     rw[List.append_nil]
     rcases hB with ⟨h0,h⟩ |⟨g2,cur,h1,h2,h3⟩
     ·exact .inl ⟨by rw[h0]; simp,h⟩
     ·refine .inr ⟨g2,cur,h1,h2,fun i x hx=>h3 i x ?_⟩
      rw[List.getElem?_take] at hx
      split at hx
      ·exact hx
      ·cases hx
    have hne:∀ i,(σ.seth j (.row (.ints k (l.take (off+0)++ [])))).hp i≠ .gone→σ.hp i≠ .gone:=by
     intro i hi'
     by_cases e':i=j
     ·rw[e']; exact hgone
     ·simpa[St.seth,e'] using hi'
    refine⟨hS.tm,hS.sz,hS.df,fun i=>?_,fun i k g hi' hk' e1 e2=>hS.inj i k g (hne i hi') (hne k hk') e1 e2,fun i g hi' e1=>hS.own i g (hne i hi') e1,hS.lt,hS.fr,hS.keep,hS.bb,hS.nbl⟩
    by_cases e':i=j
    ·subst e'; simpa[St.seth] using hblk
    ·simp only[St.seth,e',if_false]; exact hS.hp i
  · -- in place
    obtain⟨cur,hrow,hcap⟩:=hcap
    have hcur:=ho3 g cur hgj hrow
    obtain⟨_,_,hnF⟩:=hS.own j g hgone hgj
    have hle:off+len+news.length≤cur.size:=by omega
    obtain⟨w',r1,r2⟩:=z1q (P:=P) (g:=g) (off:=off+len) news 0 w cur hone hrow (by omega)
    simp only[Nat.add_zero] at r2
    have hls:=z3K hle
    have hfc:(Builtin.firstCells 1 m (.slice ad m cs)).run P w= .ok news.toArray w:=by
     cases had:ad with
     | none=>
       have:=hnone had
       subst this
       have:news= []:=List.eq_nil_of_length_eq_zero hnl
       subst this
       simp[Builtin.firstCells]
     | some b=>
       by_cases hne:news= []
       ·have:m=0:=by rw[←hnl,hne]; rfl
        subst hne
        simp[Builtin.firstCells,this,loadCells,loadCellsFrom]
       ·obtain⟨b',o',h1,h2⟩:=hcell hne
        rw[had] at h1
        obtain rfl:=Option.some.inj h1
        simp only[Builtin.firstCells]
        exact z29 h2 (by omega)
    have hrun:(Builtin.append_ #[t,t] o.type #[.slice (some ⟨g,off,none⟩) len cap,.slice ad m cs]).run P w= .ok (.slice (some ⟨g,off,none⟩) (len+m) cap) w':=by
     simp[Builtin.append_,run_underlying ht,sizeOf,typeInfo,hi,hsz,Builtin.lenOf,hroom,hfc,z0D,r1]
    rw[z0K hop hc hca hct (by rw[he1,hv2]; exact hrun)]
    refine hKK _ _ (hk1 _ _ ⟨β,F,SRb.put ?_ (.c ?_) (z0x hd)⟩)
    ·refine(hS.written hgone hgj hrow r2 hls (blk:= .row (.ints k (l.take (off+len)++l2))) (.inr ⟨g,_,hgj,r2.row,fun i v hv=>?_⟩)).1
     rw[z3B hle]
     rw[List.getElem?_append] at hv
     have hlt:(l.take (off+len)).length=off+len:=by simp; omega
     rw[hlt] at hv
     by_cases h1:i<off+len
     ·rw[if_pos h1] at hv ⊢
      rw[List.getElem?_take,if_pos h1] at hv
      rcases hB with ⟨h0,_⟩ |⟨g2,cur2,e1,e2,e3⟩
      ·subst h0; simp at hv
      ·rw[hgj] at e1
       obtain rfl:=Option.some.inj e1
       have:cur2=cur:=by
        obtain⟨t1,f1,k1,_⟩:=hrow
        obtain⟨t2,f2,k2,_⟩:=e2
        rw[k1] at k2
        simp only[Option.some.injEq,Obj.cells.injEq] at k2
        exact k2.1.symm
       subst this
       exact e3 _ _ hv
     ·rw[if_neg h1] at hv ⊢
      have hlt2:=(List.getElem?_eq_some_iff.1 hv).1
      rw[if_pos (by omega),hr2,List.getElem?_map,hv]
      rfl
    ·rw[←hm]
     exact .own _ _ _ _ _ _ hroom hmx (.inr ⟨g,hgj,rfl,_,r2.row,by rw[hls]; omega⟩)
 · -- a new array
   have hmpos:0<m:=by omega
   have hne:news≠ []:=by intro h'; rw[h'] at hnl; simp at hnl; omega
   obtain⟨b,o',hb0,hcell2⟩:=hcell hne
   subst hb0
   have hgrow:∃ v' w',(Builtin.append_ #[t,t] o.type #[.slice ao len cap,.slice (some ⟨b,o',none⟩) m cs]).run P w= .ok v' w'∧w'.ownsRow w.heap.size e 1 v' (len+m) (olds++news)∧w.grownBy w' none:=by
    have hcell':∀(k:Nat) (u:Value),news[k]? =some u→w.cell? ((⟨b,o',none⟩:Addr).add k)=some u:=fun k u hu=>by rw[z0D]; exact hcell2 k u hu
    cases ao with
    | none=>
      have hc0:cap=0:=by
       rcases hh with h |⟨g,_,h,_⟩
       ·exact h
       ·cases h
      have hl0:len=0:=by omega
      subst hc0; subst hl0
      have:olds= []:=List.eq_nil_of_length_eq_zero (by rw[ho2])
      subst this
      obtain⟨v',w',h1,h2,h3,_⟩:=run_append_own (P:=P) w w.heap.size t o.type e i z 1 by_ ht hi hz hsz hby hzs (by decide) (.slice none 0 0) 0 [] (World.ownsRow_nil w _ e 1) ⟨b,o',none⟩ m cs news (by omega) hcell' hone (by omega) hbytes (Nat.le_refl _)
      exact⟨v',w',h1,h2,h3⟩
    | some b2=>
      exact run_append_arg_grows (P:=P) w t o.type e i z 1 by_ ht hi hz hsz hby hzs (by decide) b2 len cap olds (by omega) (fun k u hu=>by
       rcases hh with rfl |⟨g,hgj,h,cur,hrow,hcap⟩
       ·have:len=0:=by omega
        subst this
        have:olds= []:=List.eq_nil_of_length_eq_zero (by rw[ho2])
        subst this
        simp at hu
       ·obtain rfl:=Option.some.inj h
        rw[z0D,hrow.cell]
        exact ho3 g cur hgj hrow k u hu) ⟨b,o',none⟩ m cs news (by omega) hcell' (by omega) h63 hbytes
   obtain⟨v',w',hrun,hown,hgb⟩:=hgrow
   rw[z0K hop hc hca hct (by rw[he1,hv2]; exact hrun)]
   obtain⟨hsz',hown⟩:=hown
   rcases hown with ⟨_,h0⟩ |⟨g',cap',cur',rfl,hg1,hg2,hn1,hn2,hn3,hn4⟩
   ·omega
   ·have hk:=hS.kill K hKn
    have hlt':g'<w'.heap.size:=(Array.getElem?_eq_some_iff.1 hg2).1
    have hrow':Row w' g' cur':=⟨e,(0,0),hg2,.inl rfl⟩
    have hS2:=hk.grow (g:=g') (by simp) hKn (by simp[St.kill]) hgb hg1 hlt' (.row (.ints k ((l.take (off+len)).drop off++l2))) (.inr ⟨g',cur',by simp,hrow',fun i x hx=>by
     have hu:(olds++news)[i]? =some (Value.int k x):=by
      rw[ho1,hr2,←List.map_append,List.getElem?_map,hx]; rfl
     rw[←hn4,List.getElem?_take] at hu
     split at hu
     ·simpa using hu
     ·cases hu⟩)
    refine hKK _ _ (hk2 _ _ ⟨_,F,hS2.put (.c ?_) (z0x hd)⟩)
    rw[←hm]
    exact .own _ _ _ _ _ _ hn1 hn2 (.inr ⟨g',by simp,rfl,cur',hrow',by rw[hn3]; omega⟩)
theorem zce {t e:TypeId} {sz by_ n:Nat} {parts:Array (Nat×Operand)} {ps:List Prop} {out:List Cell} {d:Leaf} {β:Nat→Option Nat} {F:Nat→Prop} {a:Act} {w:World} (hS:SRb E β F σ a w) (hE:Elt P t e sz by_) (hz:z01 P e)
  (hf:z1A (fun i=>some (i*sz,sz)) (List.replicate (n*sz) .un) (parts.toList.map fun(i,x)=>(i,ox σ x))=some (ps,out)) (hp:z03 ps) (hdd:z2H P e sz n out=some d) (hn:n*sz≤16777216∧n≤16777216∧z0f d=n∧szD d=sz):
  ∃ r:Array Value,(Instr.buildSlice t n (parts.map fun(i,x)=>(i,a.eval x))).run P w= .ok (.slice (some ⟨w.heap.size,0,none⟩) n n) (w.alloc (.cells r e))∧RC F w d r.toList:=by
 obtain⟨ht,i,z,hi,hz',hsz,hby,hzs⟩:=hE
 obtain⟨n1,n2,n3,n4⟩:=hn
 -- the row of zeros
 let zs:Array Value:=(Array.range (n*sz)).map ((if n*sz=0 then #[] else z.cells)[· %(if n*sz=0 then(#[]:Array Value) else z.cells).size]!)
 have hzsz:zs.size=n*sz:=by simp[zs]
 have hzo:∀(j:Nat) (u:Value),zs[j]? =some u→u.oneCell'=true:=fun j u hu=>by
  have hlt:=(Array.getElem?_eq_some_iff.1 hu).1
  rw[hzsz] at hlt
  have hne:n*sz≠0:=by omega
  have hszp:0<sz:=Nat.pos_of_mul_pos_left (by omega:0<n*sz)
  have hm:j%z.cells.size<z.cells.size:=Nat.mod_lt _ (by omega)
  have:u=z.cells[j%z.cells.size]:=by
   simp only[zs,hne,if_false,Array.getElem?_map,Array.getElem?_range,hlt,if_true,Option.map_some,Option.some.injEq] at hu
   rw[←hu]
   simp[hm]
  rw[this]
  exact List.all_eq_true.1 (hz i z hi hz') _ (by simp)
 have hpl:z5I β F w (parts.toList.map fun(i,x)=>(i,ox (σ) x)) (parts.toList.map fun(i,x)=>(i,a.eval x)):=z4r hS parts.toList
 obtain⟨r,g1,g2,g3⟩:=z43 _ _ _ zs ps out hf hp (by simp[hzsz]) (fun j y u hy hu=>by
  rw[List.getElem?_replicate] at hy
  split at hy
  ·simp at hy; subst hy; exact .un (hzo j u hu)
  ·cases hy) hpl
 have hrun:(Instr.buildSlice t n (parts.map fun(i,x)=>(i,a.eval x))).run P w= .ok (.slice (some ⟨w.heap.size,0,none⟩) n n) (w.alloc (.cells r e)):=by
  have e1:(parts.map fun(i,x)=>(i,a.eval x)).toList=parts.toList.map fun(i,x)=>(i,a.eval x):=by simp
  have e2:¬ (n*sz>2^24):=by omega
  unfold Instr.buildSlice
  simp only[Sem.run_bind,run_underlying ht,Result.andThen_ok,sizeOf,typeInfo,run_program,hi,Sem.run_pure,hsz,e1]
  rw[if_neg e2]
  by_cases h0:n*sz=0
  ·have:zs=(Array.range (n*sz)).map ((#[]:Array Value)[· %(#[]:Array Value).size]!):=by simp[zs,h0]
   rw[this] at g1
   simp only[h0,if_true,Sem.run_pure,Sem.run_bind,Result.andThen_ok] at g1 ⊢
   rw[g1]
   rfl
  ·have:zs=(Array.range (n*sz)).map (z.cells[· %z.cells.size]!):=by simp[zs,h0]
   rw[this] at g1
   simp only[h0,if_false,Sem.run_pure,Sem.run_bind,Result.andThen_ok,zeroValue,typeInfo,run_program,hi,hz']
   rw[g1]
   rfl
 have hRC:RC F w d r.toList:=by
  unfold z2H at hdd
  split at hdd
  ·rename_i k hk'
   split at hdd
   ·rename_i l hl
    simp only[Option.some.injEq] at hdd
    subst hdd
    have ho:=zb6 hl
    subst ho
    simp only[RC]
    apply List.ext_getElem?
    intro j
    rw[List.getElem?_map]
    cases hj:l[j]? with
    | none=>
      have:r.toList[j]? =none:=by
       rw[List.getElem?_eq_none_iff] at hj ⊢
       simp[g2]; simpa using hj
      rw[this]; rfl
    | some x=>
      have hlt:=(List.getElem?_eq_some_iff.1 hj).1
      have hlt':j<r.size:=by rw[g2]; simpa using hlt
      have:=g3 j (.lf (.v (.int k x))) r[j] (by rw[List.getElem?_map,hj]; rfl) (by simp[hlt'])
      have hv:r[j]= .int k x:=by
       generalize r[j]=u at this
       cases this with | lf h=>cases h; rfl
      simp[hlt',hv]
   ·cases hdd
  ·split at hdd
   ·rename_i ls hl
    simp only[Option.some.injEq] at hdd
    subst hdd
    have ho:=z77 hl
    subst ho
    have hrs:r.size=ls.length:=by rw[g2]; simp
    have hll:(z5c sz n ls).length=n:=z5V n ls
    have hfl:ls.length=n*sz:=by
     have hout:∀(parts:List (Nat×(List Prop×Av))) (cells:List Cell) (ps:List Prop) (out:List Cell),z1A (fun i=>some (i*sz,sz)) cells parts=some (ps,out)→out.length=cells.length:=by
      intro parts
      induction parts with
      | nil=>intro cells ps out h; simp[z1A] at h; rw[h.2]
      | cons p parts ih=>
        obtain⟨i,p,x⟩:=p
        intro cells ps out h
        simp only[z1A] at h
        split at h
        ·rename_i cs e1 e2
         split at h
         ·rename_i e3 e4 e5
          split at h
          ·rename_i q r' e6
           simp only[Option.some.injEq,Prod.mk.injEq] at h
           obtain⟨_,rfl⟩:=h
           rw[ih _ _ _ e6]
           simp only[Option.some.injEq,Prod.mk.injEq] at e1
           have:i*sz+cs.length≤cells.length:=by have:=e5; simp at this; omega
           simp; omega
          ·cases h
         ·cases h
        ·cases h
     have:=hout _ _ _ _ hf
     simpa using this
    refine⟨by rw[hll]; simp[hrs,hfl],z7V n ls (by omega),fun i' r' k x h1 h2=>?_⟩
    have h3:=z7U n ls i' r' k x h1 h2
    have hlt:=(List.getElem?_eq_some_iff.1 h3).1
    have hlt':i'*sz+k<r.size:=by omega
    have:=g3 (i'*sz+k) (.lf x) r[i'*sz+k] (by rw[List.getElem?_map,h3]; rfl) (by simp[hlt'])
    cases this with | lf h=>exact⟨_,by simp[hlt'],h⟩
   ·cases hdd
 exact⟨r,hrun,hRC⟩
theorem RC.toLf {F F':Nat→Prop} {w:World} {d:Leaf} {vs:List Value} {g n c:Nat} (h:RC F w d vs) (hF:∀ b,F b→F' b) (hg:F' g) (hc:∀(i:Nat) (v:Value),vs[i]? =some v→w.cell? ⟨g,i,none⟩=some v) (hn:n=z0f d) (hnc:n≤c) (hcm:c≤maxLen):LfR F' w d (.slice (some ⟨g,0,none⟩) n c):=by
 cases d with
 | ints k l=>
   simp only[RC] at h
   subst h
   refine .ints k l _ n c hn hnc hcm fun _=>⟨g,0,rfl,hg,fun i x hx=>?_⟩
   rw[Nat.zero_add]
   exact hc i _ (by rw[List.getElem?_map,hx]; rfl)
 | recs sz l=>
   obtain⟨h1,h2,h3⟩:=h
   refine .recs sz l _ n c (fun i j=>(vs[i*sz+j]?).getD undef) hn hnc hcm h2 (fun _=>⟨g,0,rfl,hg,fun i r j x hi hj=>?_⟩) (fun i r j x hi hj=>?_)
   ·obtain⟨v,hv,_⟩:=h3 i r j x hi hj
    rw[Nat.zero_add,hv]
    exact hc _ v hv
   ·obtain⟨v,hv,hl⟩:=h3 i r j x hi hj
    rw[hv]
    exact hl.mono fun b hb=>⟨hF b hb,rfl⟩
 | v=>exact h.elim
 | obj=>exact h.elim
theorem z8q {t e:TypeId} {sz by_ n:Nat} {parts:Array (Nat×Operand)} {ps:List Prop} {out:List Cell} {d:Leaf} (hop:o.op= .buildSlice t n parts) (hE:Elt P t e sz by_) (hz:z01 P e)
  (hf:z1A (fun i=>some (i*sz,sz)) (List.replicate (n*sz) .un) (parts.toList.map fun(i,x)=>(i,ox σ x))=some (ps,out)) (hp:z03 ps) (hdd:z2H P e sz n out=some d) (hn:n*sz≤16777216∧n≤16777216∧z0f d=n∧szD d=sz):
  OpY P E o σ (.c (.lf d)):=by
 refine z3D fun β F a w hS=>?_
 obtain⟨r,hrun,hRC⟩:=zce hS hE hz hf hp hdd hn
 have hb:∀ k,k<w.heap.size→(w.alloc (.cells r e)).heap[k]? =w.heap[k]?:=fun k hk=>RowKit.Below.heap_alloc w _ k hk
 have hsz:(w.alloc (.cells r e)).heap.size=w.heap.size+1:=by simp
 refine⟨_,w.alloc (.cells r e),fun b=>F b∨b=w.heap.size,by simp only[execOp,hop,Sem.run_bind,hrun,Result.andThen_ok]; rfl,⟨rfl,rfl,rfl,by omega,hb⟩,fun b h=> .inl h,fun b hb'=>?_,.c (.lf ?_)⟩
 ·rcases hb' with h | h
  ·exact .inl h
  ·exact .inr (by omega)
 ·refine RC.toLf (F:=F) (vs:=r.toList) (hRC.mono fun b hb'=>⟨hb',hb b (hS.fr b hb').1⟩) (fun b h=> .inl h) (.inr rfl) (fun i v hv=>?_) hn.2.2.1.symm (Nat.le_refl _) (by simp only[maxLen]; omega)
  rw[(z3h (w:=w) r e).cell]
  simpa using hv
theorem z7H {τ:St} {c:Code} (h:∀ a w,SR E σ a w→SR E τ a w) (hk:W P E c Q τ):W P E c Q σ:=fun a w hS=>hk a w (h a w hS)
theorem z4x {τ:St} (h:∀ a w,SR E σ a w→SR E τ a w) (hk:WL P E ops Q rest τ):WL P E ops Q rest σ:=fun a w hS=>hk a w (h a w hS)
theorem z41 {τ:St} {e:Exit} (h:∀ a w,SR E σ a w→SR E τ a w) (hk:N E Q e τ):N E Q e σ:=fun a w hS=>hk a w (h a w hS)
theorem SRb.setBlk {β:Nat→Option Nat} {F:Nat→Prop} {a:Act} {w:World} (h:SRb E β F σ a w) {j:Nat} {blk:Blk} (hj:σ.hp j≠ .gone) (hb:z0p β F w j blk):SRb E β F (σ.seth j blk) a w:=by
 have hne:∀ i,(σ.seth j blk).hp i≠ .gone→σ.hp i≠ .gone:=by
  intro i hi'
  by_cases e':i=j
  ·rw[e']; exact hj
  ·simpa[St.seth,e'] using hi'
 refine⟨h.tm,h.sz,h.df,fun i=>?_,fun i k g hi' hk' e1 e2=>h.inj i k g (hne i hi') (hne k hk') e1 e2,fun i g hi' e1=>h.own i g (hne i hi') e1,h.lt,h.fr,h.keep,h.bb,h.nbl⟩
 by_cases e':i=j
 ·subst e'; simpa[St.seth] using hb
 ·simp only[St.seth,e',if_false]; exact h.hp i
def zka (c c':Cell):Prop:=c'= .un∨z6H c c'
def z7I:List Cell→List Cell→Prop
 | [],[]=>True
 | c::l,c'::l'=>zka c c'∧z7I l l'
 | _,_=>False
theorem z7I.get:∀ {l l':List Cell},z7I l l'→l.length=l'.length∧∀(i:Nat) (c':Cell),l'[i]? =some c'→∃ c,l[i]? =some c∧zka c c'
 | [],[],_=>⟨rfl,fun i x h=>by simp at h⟩
 | y::ys,x::xs,h=>by
   obtain⟨h1,h2⟩:=h
   obtain⟨h3,h4⟩:=z7I.get h2
   refine⟨by simp[h3],fun i z hz=>?_⟩
   cases i with
   | zero=>simp at hz; subst hz; exact⟨y,rfl,h1⟩
   | succ i=>simpa using h4 i z (by simpa using hz)
 | [],_::_,h=>h.elim
 | _::_,[],h=>h.elim
theorem SR.cellsW {a:Act} {w:World} (j:Nat) (cs':List Cell) {cs:List Cell} (hj:σ.hp j= .cells cs) (hc:z7I cs cs') (h:SR E σ a w):SR E (σ.seth j (.cells cs')) a w:=by
 obtain⟨β,F,h⟩:=h
 obtain⟨h1,h2⟩:=hc.get
 have hB:=h.hp j
 rw[hj] at hB
 obtain⟨g,cur,e1,e2,e3,e4⟩:=hB
 refine⟨β,F,h.setBlk (by rw[hj]; intro h; cases h) ⟨g,cur,e1,e2,by omega,fun i x v hx hv=>?_⟩⟩
 obtain⟨c,hc1,hc2⟩:=h2 i x hx
 have hcv:=e4 i c v hc1 hv
 rcases hc2 with rfl | hc2
 ·exact .un hcv.one
 ·exact hc2.sound hcv
theorem SR.cell_nil {a:Act} {w:World} (j i K:Nat) {cs cs':List Cell} (hj:σ.hp j= .cells cs) (hi:cs[i]? =some (.lf (.v (.slice none 0 0)))) (hK:Nat.ble 64 K=true) (hne:Nat.beq j K=false) (hcs:((cs.map (Cell.kill K)).set i (.own K 1 0 0))=cs') (h:SR E σ a w):
  SR E (((σ.kill K).seth K (.row (.ints .u8 []))).seth j (.cells cs')) a w:=by
 subst hcs
 have hjK:j≠K:=by intro e; subst e; simp at hne
 obtain⟨β,F,h⟩:=h
 have hK64:64≤K:=by simpa using hK
 have hk:=h.kill K (by have:=h.nbl; omega)
 have hB:=hk.hp j
 have hjk:(σ.kill K).hp j= .cells (cs.map (Cell.kill K)):=by simp[St.kill,hjK,hj,Blk.kill]
 rw[hjk] at hB
 obtain⟨g,cur,e1,e2,e3,e4⟩:=hB
 have h2:SRb E (fun i=>if i=K then none else β i) F ((σ.kill K).seth K (.row (.ints .u8 []))) a w:=by
  refine⟨hk.tm,hk.sz,hk.df,fun i=>?_,fun i l g h1 h2 e1 e2=>?_,fun i g h1 e=>?_,hk.lt,hk.fr,hk.keep,hk.bb,hk.nbl⟩
  ·by_cases e:i=K
   ·subst e
    simp only[St.seth,if_true]
    exact .inl ⟨rfl,fun g hg=>by simp at hg⟩
   ·simpa[St.seth,e] using hk.hp i
  ·by_cases ek:i=K
   ·subst ek; simp at e1
   ·by_cases el:l=K
    ·subst el; simp at e2
    ·exact hk.inj i l g (by simpa[St.seth,ek] using h1) (by simpa[St.seth,el] using h2) e1 e2
  ·by_cases ek:i=K
   ·subst ek; simp at e
   ·exact hk.own i g (by simpa[St.seth,ek] using h1) e
 refine⟨_,F,h2.setBlk (j:=j) (by simp[St.seth,hjK,hjk]) ⟨g,cur,e1,e2,by simpa using e3,fun m x v hx hv=>?_⟩⟩
 rw[List.getElem?_set] at hx
 split at hx
 ·rename_i him
  subst him
  split at hx
  ·simp only[Option.some.injEq] at hx
   subst hx
   have h5:(cs.map (Cell.kill K))[i]? =some (.lf (.v (.slice none 0 0))):=by rw[List.getElem?_map,hi]; rfl
   have:=e4 i _ v h5 hv
   cases this with | lf h=>cases h with | v _ _=>exact .own _ _ _ _ _ _ (Nat.le_refl _) (by decide) (.inl rfl)
  ·cases hx
 ·exact e4 m x v hx hv
theorem z5P {a b:Nat} (h:a≠b):Nat.beq a b=false:=by
 cases h':Nat.beq a b with
 | true=>exact absurd (Nat.eq_of_beq_eq_true h') h
 | false=>rfl
theorem zgo {a b:Nat} (h:¬ a≤b):Nat.ble a b=false:=by
 cases h':Nat.ble a b with
 | true=>exact absurd (Nat.le_of_ble_eq_true h') h
 | false=>rfl
def swp (J K i:Nat):Nat:=match Nat.beq i J with | true=>K | false=>match Nat.beq i K with | true=>J | false=>i
def Av.mv (J K:Nat) (x:Av):Av:=match Av.ok 1000000 x with | true=>x.ren (swp J K) | false=> .c .un
def Blk.mv (J K:Nat) (b:Blk):Blk:=match Blk.ok 1000000 b with | true=>b.ren (swp J K) | false=> .gone
def St.mv (σ:St) (J K:Nat):St:=⟨fun i=>((σ.kill K).tm i).mv J K,fun i=>match Nat.ble 1000000 i with | true=> .gone | false=>match Nat.beq i K with | true=>((σ.kill K).hp J).mv J K | false=>match Nat.beq i J with | true=> .gone | false=>((σ.kill K).hp i).mv J K⟩
theorem zff (J K:Nat):swp J K J=K:=by simp[swp]
theorem zfg (J K:Nat) (h:J≠K):swp J K K=J:=by
 unfold swp
 rw[z5P (fun e=>h e.symm)]
 simp
theorem z9B (J K i:Nat) (h1:i≠J) (h2:i≠K):swp J K i=i:=by
 unfold swp
 rw[z5P h1,z5P h2]
theorem zao (J K i:Nat) (h:J≠K):swp J K (swp J K i)=i:=by
 by_cases h1:i=J
 ·rw[h1,zff,zfg J K h]
 ·by_cases h2:i=K
  ·rw[h2,zfg J K h,zff]
  ·rw[z9B J K i h1 h2,z9B J K i h1 h2]
theorem SR.mv {a:Act} {w:World} (J K:Nat) (hJ:Nat.ble 64 J=true) (hK:Nat.ble 64 K=true) (hne:Nat.beq J K=false) (hJ2:Nat.ble 1000000 J=false) (hK2:Nat.ble 1000000 K=false) (h:SR E σ a w):SR E (σ.mv J K) a w:=by
 have hJK:J≠K:=by intro e; subst e; simp at hne
 have hJl:J<1000000:=by
  rcases Nat.lt_or_ge J 1000000 with h | h
  ·exact h
  ·rw[Nat.ble_eq_true_of_le h] at hJ2; cases hJ2
 have hKl:K<1000000:=by
  rcases Nat.lt_or_ge K 1000000 with h | h
  ·exact h
  ·rw[Nat.ble_eq_true_of_le h] at hK2; cases hK2
 have hJ64:64≤J:=by simpa using hJ
 have hK64:64≤K:=by simpa using hK
 obtain⟨β,F,h⟩:=h
 have hk:=h.kill K (by have:=h.nbl; omega)
 let βk:Nat→Option Nat:=fun i=>if i=K then none else β i
 let β2:Nat→Option Nat:=fun i=>βk (swp J K i)
 have hβ:∀ i,i<1000000→β2 (swp J K i)=βk i:=fun i _=>by show βk (swp J K (swp J K i))=_; rw[zao _ _ _ hJK]
 have hnb:=h.nbl
 have hlow:∀ i,i<E.nb→β2 i=βk i:=fun i hi=>by show βk (swp J K i)=_; rw[z9B J K i (by omega) (by omega)]
 have hb:∀ i,(σ.mv J K).hp i≠ .gone→(σ.kill K).hp (swp J K i)≠ .gone:=by
  intro i hi
  simp only[St.mv] at hi
  by_cases c0:1000000≤i
  ·rw[Nat.ble_eq_true_of_le c0] at hi; exact absurd rfl hi
  ·have:Nat.ble 1000000 i=false:=zgo c0
   rw[this] at hi
   have hmv:∀ b:Blk,b.mv J K≠ .gone→b≠ .gone:=fun b hb e=>by subst e; exact hb rfl
   by_cases c1:i=K
   ·subst c1
    rw[zfg J i hJK]
    simp only[Nat.beq_refl] at hi
    exact hmv _ hi
   ·have e1:Nat.beq i K=false:=z5P c1
    rw[e1] at hi
    by_cases c2:i=J
    ·subst c2; simp at hi
    ·have e2:Nat.beq i J=false:=z5P c2
     rw[e2] at hi
     rw[z9B J K i c2 c1]
     exact hmv _ hi
 refine⟨β2,F,fun i=>?_,hk.sz,hk.df,fun i=>?_,fun i j g hi hj e1 e2=>?_,fun i g hi e=>?_,fun i g e=>hk.lt _ g e,hk.fr,hk.keep,fun i hi=>?_,h.nbl⟩
 ·show AvR β2 F w (((σ.kill K).tm i).mv J K) _
  unfold Av.mv
  cases hok:Av.ok 1000000 ((σ.kill K).tm i) with
  | true=>exact AvR.ren hβ (hk.tm i) hok
  | false=>exact .any _
 ·simp only[St.mv]
  by_cases c0:1000000≤i
  ·rw[Nat.ble_eq_true_of_le c0]; trivial
  ·have e0:Nat.ble 1000000 i=false:=zgo c0
   rw[e0]
   have hmv:∀ m,m<1000000→swp J K m=i→z0p β2 F w i (((σ.kill K).hp m).mv J K):=by
    intro m hm hmi
    unfold Blk.mv
    cases hok:Blk.ok 1000000 ((σ.kill K).hp m) with
    | true=>
      have:=z0p.ren (ρ:=swp J K) hβ (hk.hp m) hm hok
      rwa[hmi] at this
    | false=>trivial
   by_cases c1:i=K
   ·subst c1
    simp only[Nat.beq_refl]
    exact hmv J hJl (zff J i)
   ·have e1:Nat.beq i K=false:=z5P c1
    rw[e1]
    by_cases c2:i=J
    ·subst c2; simp only[Nat.beq_refl]; trivial
    ·have e2:Nat.beq i J=false:=z5P c2
     rw[e2]
     exact hmv i (by omega) (z9B J K i c2 c1)
 ·have:=hk.inj _ _ g (hb i hi) (hb j hj) e1 e2
  have h2:=congrArg (swp J K) this
  rwa[zao _ _ _ hJK,zao _ _ _ hJK] at h2
 ·exact hk.own _ g (hb i hi) e
 ·rw[hlow i hi]
  exact hk.bb i hi
theorem z4y {t e:TypeId} {y z:Operand} {p q:List Prop} {sz:Nat} {l:List (List Leaf)} {ki:IntKind} {i:Int} (hop:o.op= .indexAddr t y z) (ht:P.underlying t=some (.slice e)) (hc:P.cellsOf e=sz) (hsz:sz≠0) (hy:ox σ y=(p,.c (.lf (.recs sz l)))) (hz:ox σ z=(q,lv (.int ki i)))
  (hp:z03 (p++q)) (h0:0≤i) (h1:i<(l.length:Int)):OpY P E o σ (.c (.lf (.obj (l.getD i.toNat [])))):=by
 refine z3D fun β F a w hS=>?_
 have hv:=oxR hS y
 rw[hy] at hv
 have hv:=hv hp.left
 have hu:=oxR hS z
 rw[hz] at hu
 have hu:=(hu hp.right).val
 generalize he1:a.eval y=v1 at hv
 dsimp only at hv
 cases hv with | c hv=>cases hv with | lf hv=>cases hv with | recs _ _ ad n c vs hn hcc hm hs hh hl=>
 have hlt:i.toNat<l.length:=by omega
 obtain⟨b,o',rfl,hF,hcell⟩:=hh (by intro h; subst h; simp at hlt)
 have hi:(P.info? e).isSome=true:=z0J (by rw[hc]; exact hsz)
 have hg:l[i.toNat]? =some (l.getD i.toNat []):=by simp[hlt]
 refine⟨.pointer (some ⟨b,o'+i.toNat*sz,none⟩),w,F,?_,.refl w,fun _ h=>h,fun _ h=> .inl h,.c (.lf (.obj _ _ _ (fun j=>vs i.toNat j) hF (fun j x hj=>hcell _ _ _ _ hg hj) (fun j x hj=>hl _ _ _ _ hg hj)))⟩
 simp only[execOp,hop,he1,hu]
 refine z2x ?_
 have h1':i<(n:Int):=by omega
 simp[Instr.indexAt,asIntOf,run_underlying ht,h0,h1',z0M hi,hc,z0D]
theorem zgp {f:FuncId} {args args':List Av} {bor bor' news:List Blk} {res:Av} (h:Ct P f args bor res bor' news) (hu:z8B args' args):Ct P f args' bor res bor' news:=by
 obtain⟨a,b,c⟩:=h
 obtain⟨h1,h2⟩:=hu.get
 refine⟨a,b,fun w β F vs k1 k2 k3 k4 k5 k6 k7 k8=>c w β F vs (by omega) (fun i x v hx hv=>?_) k3 k4 k5 k6 k7 k8⟩
 obtain⟨y,hy,hf⟩:=h2 i x hx
 exact hf.sound (k2 i y v hy hv)
end
end Go.Sx

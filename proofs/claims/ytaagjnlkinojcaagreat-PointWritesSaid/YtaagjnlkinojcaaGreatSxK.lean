/-
  The layer's latter part: drawn regions that hold one row of their own: a call makes it, an append takes it over. No condition.
-/
import Derived.Test.YtaagjnlkinojcaaGreatSxU
import Derived.Test.YtaagjnlkinojcaaGreatSxP
import Derived.Lib.AppendZerosOnto
namespace Go.Sx
open Go
set_option linter.unusedVariables false
set_option linter.unusedSimpArgs false
section
variable {P:Program} {E:Env} {ops:Array Oper} {Q:Exit→Act→World→Prop} {rest:List Oper} {o:Oper} {σ:St}
theorem z5q {α:Type} {t:TypeId} {y:Operand} {p:List Prop} {j off:Nat} {f:α→List Leaf} {h:α→Leaf} {rs:List α} {z:α} (hop:o.op= .load t y) (ht:z2w P t=false) (ht2:(P.underlying t).isSome=true) (hy:ox σ y=(p,.c (.ptr j off))) (hb:σ.hp j= .row (.recs 1 (rs.map f))) (hf:∀ a,f a= [h a])
  (hp:z03 p) (hlt:off<rs.length):OpY P E o σ (.c (.lf (h (rs.getD off z)))):=by
 refine z3D fun β F a w hS=>?_
 have hv:=oxR hS y
 rw[hy] at hv
 have hv:=hv hp
 generalize he1:a.eval y=v1 at hv
 dsimp only at hv
 cases hv with | c hv=>cases hv with | ptr _ _ g hgj=>
 have hB:=hS.hp j
 rw[hb] at hB
 obtain⟨hall,⟨h0,_⟩ |⟨g',cur,hg',hrow,hcc⟩⟩:=hB
 ·simp at h0; subst h0; simp at hlt
 ·rw[hgj] at hg'
  obtain rfl:=Option.some.inj hg'
  obtain⟨v,e1,e2⟩:=hcc off (f (rs.getD off z)) 0 (h (rs.getD off z)) (by simp[hlt]) (by rw[hf]; rfl)
  have e1:cur[off]? =some v:=by simpa using e1
  refine⟨v,w,F,?_,.refl w,fun _ h=>h,fun _ h=> .inl h,.c (.lf e2)⟩
  simp only[execOp,hop,he1]
  refine z2x ?_
  have hc:w.cell? ⟨g,off,none⟩=some v:=by rw[hrow.cell]; exact e1
  simp[Instr.loadAt,Instr.sureAddr,loadVar,Sem.run_bind,z1Q ht2,ht,hc]
theorem z4K {α:Type} {t e:TypeId} {y z:Operand} {p q:List Prop} {sz:Nat} {f:α→List Leaf} {rs:List α} {b:α} {ki:IntKind} {i:Int} (hop:o.op= .indexAddr t y z) (ht:P.underlying t=some (.slice e)) (hc:P.cellsOf e=sz) (hsz:sz≠0) (hy:ox σ y=(p,.c (.lf (.recs sz (rs.map f))))) (hz:ox σ z=(q,lv (.int ki i)))
  (hp:z03 (p++q)) (hi:0≤i∧i<(rs.length:Int)):OpY P E o σ (.c (.lf (.obj (f (rs.getD i.toNat b))))):=by
 have h:=z4y (E:=E) hop ht hc hsz hy hz hp hi.1 (by simpa using hi.2)
 have e:(rs.map f).getD i.toNat []=f (rs.getD i.toNat b):=by
  have:i.toNat<rs.length:=by omega
  simp[List.getD_eq_getElem?_getD,List.getElem?_map,this]
 rw[e] at h
 exact h
theorem zhn {v:Value} (h:v.oneCell'=true):v.cells= #[v]:=by
 cases v<;>first | rfl | simp[Value.oneCell'] at h
theorem za3 {α:Type} {t:TypeId} {x y:Operand} {px py:List Prop} {j off:Nat} {f:α→List Leaf} {h:α→Leaf} {rs:List α} {b:α} (hop:o.op= .store t x y) (hdn:o.dst=none) (hx:ox σ x=(px,.c (.ptr j off))) (hy:ox σ y=(py,.c (.lf (h b)))) (hp:z03 (px++py))
  (hb:σ.hp j= .row (.recs 1 (rs.map f))) (hf:∀ a,f a= [h a]) (hsz:P.cellsOf t=1) (hlt:off<rs.length):z8o P E o σ (σ.seth j (.row (.recs 1 ((rs.set off b).map f)))):=by
 intro β F a w hS
 have hv1:=oxR hS x
 rw[hx] at hv1
 have hv1:=hv1 hp.left
 have hv2:=oxR hS y
 rw[hy] at hv2
 have hv2:=hv2 hp.right
 generalize he1:a.eval x=v1 at hv1
 generalize he2:a.eval y=v2 at hv2
 dsimp only at hv1 hv2
 cases hv1 with | c hv1=>cases hv1 with | ptr _ _ g hgj=>
 cases hv2 with | c hv2=>cases hv2 with | lf hv2=>
 have hone:=zhn hv2.one
 have hB:=hS.hp j
 rw[hb] at hB
 have hgone:σ.hp j≠ .gone:=by rw[hb]; intro h; cases h
 obtain⟨_,_,hnF⟩:=hS.own j g hgone hgj
 obtain⟨hall,⟨h0,_⟩ |⟨g',cur,hg',hrow,hcc⟩⟩:=hB
 ·simp at h0; subst h0; simp at hlt
 ·rw[hgj] at hg'
  obtain rfl:=Option.some.inj hg'
  have hlc:off<cur.size:=by
   obtain⟨v,e1,_⟩:=hcc off (f rs[off]) 0 (h rs[off]) (by simp[hlt]) (by rw[hf]; rfl)
   have:=(Array.getElem?_eq_some_iff.1 e1).1
   omega
  have hi:(P.info? t).isSome=true:=z0J (by rw[hsz]; decide)
  obtain⟨w',r1,r2⟩:=z1q (P:=P) (g:=g) (off:=off) [v2] 0 w cur (fun u hu=>by rw[List.mem_singleton.1 hu]; exact hv2.one) hrow (by simp; omega)
  simp only[Nat.add_zero] at r2
  have hfit:off+ [v2].length≤cur.size:=by simp; omega
  have hls:=z3K hfit
  refine⟨w',?_,?_⟩
  ·simp only[execOp,hop,he1,he2,Instr.storeAt,Instr.sureAddr,storeVar,Sem.run_bind,Sem.run_pure,Result.andThen_ok,z0M hi,hsz,hone,List.size_toArray,List.length_cons,List.length_nil,Nat.zero_add,ne_eq,not_true_eq_false,if_false,r1,Sem.run_ite]
  ·have hlf:∀ {y:Leaf} {v:Value},LfR F w y v→LfR F w' y v:=fun hl=>hl.mono fun b hb=>⟨hb,r2.other b (fun e=>hnF (e▸hb))⟩
   have hfin:=hS.written hgone hgj hrow r2 hls (blk:= .row (.recs 1 ((rs.set off b).map f))) ⟨fun r hr=>by
    obtain⟨q,_,rfl⟩:=List.mem_map.1 hr
    rw[hf]; rfl,.inr ⟨g,_,hgj,r2.row,fun i r k y hr hk=>?_⟩⟩
   ·rw[hdn]; exact hfin.1
   ·rw[List.getElem?_map,Option.map_eq_some_iff] at hr
    obtain⟨q,hq,rfl⟩:=hr
    rw[hf] at hk
    cases k with
    | succ k=>simp at hk
    | zero=>
      simp only[List.getElem?_cons_zero,Option.some.injEq] at hk
      subst hk
      rw[z3B hfit]
      simp only[List.length_cons,List.length_nil,Nat.zero_add,Nat.mul_one,Nat.add_zero]
      rw[List.getElem?_set] at hq
      by_cases h2:off=i
      ·subst h2
       rw[if_pos rfl,if_pos hlt] at hq
       obtain rfl:=Option.some.inj hq
       rw[if_neg (by omega),if_pos (by omega)]
       exact⟨v2,by simp,hlf hv2⟩
      ·rw[if_neg h2] at hq
       obtain⟨v,e1,e2⟩:=hcc i (f q) 0 (h q) (by simp[hq]) (by rw[hf]; rfl)
       have e1:cur[i]? =some v:=by simpa using e1
       refine⟨v,?_,hlf e2⟩
       by_cases h1:i<off
       ·rw[if_pos h1]; exact e1
       ·rw[if_neg h1,if_neg (by omega)]; exact e1
theorem zd3 {t e:TypeId} {sz by_:Nat} {c:Call} {x y:Operand} {px qs:List Prop} {d:Leaf} (hop:o.op= .call c) (hc:c.callee= .builtin .append) (ha:c.args.toList= [x,y]) (hty:c.argTypes.toList= [t,t])
  (hE:Elt P t e sz by_) (hx:ox σ x=(px,lv (.slice none 0 0))) (hy:z1B σ (ox σ y)=some (qs,d)) (hp:z03 (px++qs)) (hd:szD d=sz∧sz≠0∧0<z0f d) (hlim:z0f d≤4294967296∧by_≤4096):OpY P E o σ (.c (.lf d)):=by
 refine z3D fun β F a w hS=>?_
 have hv1:=oxR hS x
 rw[hx] at hv1
 have hv1:=(hv1 hp.left).val
 obtain⟨ad,m,cs,news,hv2,hm,hmc,hr2,hcell⟩:=z3p hS hy hp.right (oxR hS y)
 have hca:c.args= #[x,y]:=by apply Array.toList_inj.1; simpa using ha
 have hct:c.argTypes= #[t,t]:=by apply Array.toList_inj.1; simpa using hty
 obtain⟨ht,i,z,hi,hz,hsz,hby,hzs⟩:=hE
 obtain⟨hs1,hs2,hs3⟩:=hd
 have hpos:0<sz:=Nat.pos_of_ne_zero hs2
 have hnl:news.length=m*sz:=by rw[hr2.length,hm,hs1]
 have hne:news≠ []:=by
  intro h'
  rw[h'] at hnl
  have:=Nat.mul_pos (show 0<m by omega) hpos
  simp at hnl; omega
 obtain⟨b,o',hb0,hcell2⟩:=hcell hne
 subst hb0
 have hbytes:(0+m)*by_≤140737488355328:=by
  have:(0+m)*by_≤4294967296*4096:=Nat.mul_le_mul (by omega) hlim.2
  omega
 have h63:0+m≤maxLen:=by simp only[maxLen]; omega
 have hcell':∀(k:Nat) (u:Value),news[k]? =some u→w.cell? ((⟨b,o',none⟩:Addr).add k)=some u:=fun k u hu=>by rw[z0D]; exact hcell2 k u hu
 obtain⟨v',w',hrun,hown,hgb,_⟩:=run_append_own (P:=P) w w.heap.size t o.type e i z sz by_ ht hi hz hsz hby hzs hpos (.slice none 0 0) 0 [] (World.ownsRow_nil w _ e sz) ⟨b,o',none⟩ m cs news hnl hcell' hr2.one (by omega) hbytes (Nat.le_refl _)
 obtain⟨hsz',hown⟩:=hown
 rcases hown with ⟨_,h0⟩ |⟨g',cap',cur',rfl,hg1,hg2,hn1,hn2,hn3,hn4⟩
 ·omega
 ·have hlt':g'<w'.heap.size:=(Array.getElem?_eq_some_iff.1 hg2).1
  have hrow':Row w' g' cur':=⟨e,(0,0),hg2,.inl rfl⟩
  have hbk:∀ k,k<w.heap.size→w'.heap[k]? =w.heap[k]?:=fun k hk=>hgb.block k hk (by simp[Value.ownBlock])
  refine⟨_,w',fun b=>F b∨b=g',z0K hop hc hca hct (by rw[hv1,hv2]; exact hrun),⟨hgb.os,hgb.tape,hgb.output,hgb.size,hbk⟩,fun b h=> .inl h,fun b hb'=>?_,.c (.lf ?_)⟩
  ·rcases hb' with h | h
   ·exact .inl h
   ·exact .inr (by omega)
  ·rw[Nat.zero_add] at hn1 hn4 ⊢
   refine RC.toLf (F:=F) (vs:=news) (hr2.mono fun b hb'=>⟨hb',hbk b (hS.fr b hb').1⟩) (fun b h=> .inl h) (.inr rfl) (fun i v hv=>?_) hm hn1 hn2
   rw[hrow'.cell]
   have:cur'.toList[0+i]? =some v:=by
    rw[Nat.zero_add]
    rw[List.nil_append] at hn4
    rw[←hn4,List.getElem?_take] at hv
    split at hv
    ·exact hv
    ·cases hv
   simpa using this
theorem zho {t e:TypeId} {sz by_:Nat} {c:Call} {x y:Operand} {px qs:List Prop} {d:Leaf} (hop:o.op= .call c) (hc:c.callee= .builtin .append) (ha:c.args.toList= [x,y]) (hty:c.argTypes.toList= [t,t])
  (hE:Elt P t e sz by_) (hx:ox σ x=(px,lv (.slice none 0 0))) (hy:z1B σ (ox σ y)=some (qs,d)) (hp:z03 (px++qs)) (hd:szD d=sz∧sz≠0∧0<z0f d) (hlim:z0f d≤4294967296∧by_≤4096):z4V P E ops o σ (.c (.lf d)):=fun τ hl=>by
 have m1:x ∈ o.op.operands.toList:=by rw[hop]; simp[Op.operands,Call.operands,ha]
 have m2:y ∈ o.op.operands.toList:=by rw[hop]; simp[Op.operands,Call.operands,ha]
 refine zd3 hop hc ha hty hE ((hl.ox x m1).trans hx) ?_ hp hd hlim
 rw[hl.ox y m2]
 have:z1B τ=z1B σ:=by
  funext q
  unfold z1B
  rw[hl.hp]
 rw[this]; exact hy
end
section
variable {P:Program} {E:Env} {ops:Array Oper} {Q:Exit→Act→World→Prop} {rest:List Oper} {o:Oper} {σ:St} {x:Av}
theorem z4L {i:Nat} {b:Bool} (hg:o.guard=some (i,b)) (hG:z0V ops σ i b=some true) (hk:WL P E ops Q ({o with guard:=none}::rest) σ):WL P E ops Q (o::rest) σ:=by
 intro a w hS
 have h:=hk a w hS
 obtain⟨β,F,hS'⟩:=hS
 have hw:Region.wanted o (yielded ops a.tmps)=true:=z4a (o:=o) (z6g hG) hg hS'
 have hw':Region.wanted {o with guard:=none} (yielded ops a.tmps)=true:=by simp[Region.wanted]
 unfold wpList at h ⊢
 rw[hw]
 rw[hw'] at h
 exact h
theorem z9k {τ:St} (h:τ.hp=σ.hp):∀ {ys xs:List Av},z4b σ ys xs→z4b τ ys xs
 | [],[],_=>trivial
 | y::ys,x::xs,hl=>by
   refine⟨?_,z9k h hl.2⟩
   have:=hl.1
   unfold z96 at this ⊢
   rw[h]
   exact this
 | [],_::_,hl=>hl.elim
 | _::_,[],hl=>hl.elim
theorem za4 {c:Call} {fo:Operand} {f:FuncId} {first cap:List Cell} {pf:List Prop} {xs:List Av} {res:Av} (hF:Ct P f xs [] res [] [])
  (hop:o.op= .call c) (hcv:c.callee= .value fo) (hfo:ox σ fo=(pf,.c (.fn (.func f) first cap)))
  (hp:z03 (pf++(oxs σ c.args.toList).1)) (hxs:z4b σ (first.map Av.c++(oxs σ c.args.toList).2++cap.map Av.c) xs) (hok:(xs.all (Av.ok 0)&&z44 res)=true):z4V P E ops o σ res:=by
 intro τ hl
 have hx:=hl.ox
 have e1:ox τ fo=ox σ fo:=hx fo (by rw[hop]; simp[Op.operands,Call.operands,hcv])
 have e2:oxs τ c.args.toList=oxs σ c.args.toList:=z4g hx _ fun y hy=>by
  rw[hop]; simp only[Op.operands,Call.operands]; simp at hy ⊢; first | exact .inr hy | exact .inl hy | simp[hy]
 exact z1J hF hop hcv (by rw[e1]; exact hfo) (by rw[e2]; exact hp) (by rw[e2]; exact z9k hl.hp hxs) hok
theorem z7m {t e:TypeId} {sz by_ n:Nat} {parts:Array (Nat×Operand)} {ps:List Prop} {out:List Cell} {d:Leaf} (hop:o.op= .buildSlice t n parts) (hE:Elt P t e sz by_) (hz:z01 P e)
  (hf:z1A (fun i=>some (i*sz,sz)) (List.replicate (n*sz) .un) (parts.toList.map fun(i,x)=>(i,ox σ x))=some (ps,out)) (hp:z03 ps) (hdd:z2H P e sz n out=some d) (hn:n*sz≤16777216∧n≤16777216∧z0f d=n∧szD d=sz):
  z4V P E ops o σ (.c (.lf d)):=by
 intro τ hl
 have e1:(parts.toList.map fun(i,x)=>(i,ox τ x))=parts.toList.map fun(i,x)=>(i,ox σ x):=List.map_congr_left fun p hp=>by
  obtain⟨i,x⟩:=p
  have:ox τ x=ox σ x:=hl.ox x (by
   rw[hop]
   simp only[Op.operands]
   simp
   exact⟨i,by simpa using hp⟩)
  simp only[this]
 exact z8q hop hE hz (by rw[e1]; exact hf) hp hdd hn
def zkh (σ:St):List Cell→List Leaf→Prop
 | [],[]=>True
 | c::cs,x::xs=>(c= .lf x∨∃ j off len k L,c= .own j 1 off len∧σ.hp j= .row (.ints k L)∧off+len≤L.length∧x= .ints k ((L.drop off).take len))∧zkh σ cs xs
 | _,_=>False
def zki (σ:St) (y x:Av):Prop:=z96 σ y x∨∃ j cs L,y= .c (.ptr j 0)∧σ.hp j= .cells cs∧zkh σ cs L∧x= .c (.lf (.obj L))
def za5 (σ:St):List Av→List Av→Prop
 | [],[]=>True
 | y::ys,x::xs=>zki σ y x∧za5 σ ys xs
 | _,_=>False
theorem za5.get {σ:St}:∀ {ys xs:List Av},za5 σ ys xs→ys.length=xs.length∧∀(i:Nat) (x:Av),xs[i]? =some x→∃ y,ys[i]? =some y∧zki σ y x
 | [],[],_=>⟨rfl,fun i x h=>by simp at h⟩
 | y::ys,x::xs,h=>by
   obtain⟨h1,h2⟩:=h
   obtain⟨h3,h4⟩:=za5.get h2
   refine⟨by simp[h3],fun i z hz=>?_⟩
   cases i with
   | zero=>simp at hz; subst hz; exact⟨y,rfl,h1⟩
   | succ i=>simpa using h4 i z (by simpa using hz)
 | [],_::_,h=>h.elim
 | _::_,[],h=>h.elim
end
section
variable {P:Program} {E:Env} {ops:Array Oper} {Q:Exit→Act→World→Prop} {rest:List Oper} {o:Oper} {σ:St} {x:Av}
def OpT (P:Program) (E:Env) (ops:Array Oper) (o:Oper) (σ σ':St):Prop:=∀ a w,SR E σ a w→∀(K:Act→World→Prop) (Q:Exit→Act→World→Prop),(∀ a' w',SR E σ' a' w'→K a' w')→
 if Region.wanted o (yielded ops a.tmps) then o.wp P a w K Q∨(o.asks P a w∧LetsOut Q) else K (a.put o.dst undef) w
theorem OpT.weaken {σ' τ:St} (h:OpT P E ops o σ σ') (hw:∀ a w,SR E σ' a w→SR E τ a w):OpT P E ops o σ τ:=fun a w hS K Q hK=>h a w hS K Q fun a' w' h=>hK a' w' (hw a' w' h)
end
end Go.Sx

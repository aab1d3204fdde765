/-
  Rows of structs whose cells may be ways into blocks of the call's own: literals, appended to, looked into. No condition.
-/
import Derived.Test.YtaagjnlkinojcaaGreatO24
import Derived.Test.YtaagjnlkinojcaaGreatA6
import Derived.Test.YtaagjnlkinojcaaGreatB16
import Derived.Test.YtaagjnlkinojcaaGreatSxQ
namespace Go.Proofs.YtaagjnlkinojcaaGreat
set_option linter.unusedSimpArgs false
set_option linter.unusedVariables false
open Go.Sx
set_option maxRecDepth 10000
theorem zf5 {l o:List Int} {p q:Nat} (hw:WfB l) (h:z3q l p=(o,q,0)):z0V o=true∧l.drop p=z04 (ofT 6) (z0v (z0Y o))++l.drop q:=by
 unfold z3q at h
 have hm:=z0H l p (ofT 6)
 generalize hX:z0m l p (ofT 6)=X at*
 obtain⟨x,q1,e⟩:=X
 dsimp only at*
 have hwx:WfB x:=fun y hy=>hw y (hm.2 y hy)
 by_cases he:e=0
 ·subst he
  rw[if_pos rfl] at h
  have hr:=zdB x hwx
  generalize hY:z2w x=Y at*
  obtain⟨o1,f⟩:=Y
  dsimp only at*
  by_cases hf:f=0
  ·subst hf
   rw[if_pos rfl] at h
   simp only[Prod.mk.injEq] at h
   obtain⟨rfl,rfl,_⟩:=h
   refine⟨hr rfl,?_⟩
   rw[zf7 hwx hY]
   exact(z6e hw hX).2
  ·rw[if_neg hf] at h
   simp only[Prod.mk.injEq] at h
   exact absurd h.2.2 hf
 ·rw[if_neg he] at h
  simp only[Prod.mk.injEq] at h
  exact absurd h.2.2 he
theorem z7J (A b C:List Int) (t u:z0g) (h:z0q t=true) (hb:b.length≤16777216):isH (A++(z04 t b++C)) A.length u=decide (t=u):=by
 unfold isH
 rw[z4m A b C t h hb]
 simp
end Go.Proofs.YtaagjnlkinojcaaGreat
namespace Go.Sx
open Go
set_option linter.unusedVariables false
section
variable {P:Program} {E:Env} {ops:Array Oper} {Q:Exit→Act→World→Prop} {rest:List Oper} {o:Oper} {σ:St}
theorem zga {t e:TypeId} {sz by_ n:Nat} {parts:Array (Nat×Operand)} {ps:List Prop} {out:List Cell} {β:Nat→Option Nat} {F:Nat→Prop} {a:Act} {w:World} (hS:SRb E β F σ a w) (hE:Elt P t e sz by_) (hz:z01 P e)
  (hf:z1s (fun i=>some (i*sz,sz)) (List.replicate (n*sz) .un) (parts.toList.map fun(i,x)=>(i,ox σ x))=some (ps,out)) (hp:z03 ps) (hn:n*sz≤16777216):
  ∃ r:Array Value,(Instr.buildSlice t n (parts.map fun(i,x)=>(i,a.eval x))).run P w= .ok (.slice (some ⟨w.heap.size,0,none⟩) n n) (w.alloc (.cells r e))∧r.size=out.length∧∀(i:Nat) (y:Cell) (u:Value),out[i]? =some y→r[i]? =some u→CellR β F w y u:=by
 obtain⟨ht,i,z,hi,hz',hsz,hby,hzs⟩:=hE
 let zs:Array Value:=(Array.range (n*sz)).map ((if n*sz=0 then #[] else z.cells)[· %(if n*sz=0 then(#[]:Array Value) else z.cells).size]!)
 have hzsz:zs.size=n*sz:=by simp[zs]
 have hzo:∀(j:Nat) (u:Value),zs[j]? =some u→u.oneCell'=true:=fun j u hu=>by
  have hlt:=(Array.getElem?_eq_some_iff.1 hu).1
  rw[hzsz] at hlt
  have hne:n*sz≠0:=by omega
  have hszp:0<sz:=Nat.pos_of_mul_pos_left (by omega:0<n*sz)
  have hm:j%z.cells.size<z.cells.size:=Nat.mod_lt _ (by omega)
  have:u=z.cells[j%z.cells.size]:=by
   simp only[zs,hne,if_false,Array.getElem?_map,Array.getElem?_range,hlt,if_true,Option.map_some,Option.some.injEq] at hu
   rw[←hu]
   simp[hm]
  rw[this]
  exact List.all_eq_true.1 (hz i z hi hz') _ (by simp)
 have hpl:z5H β F w (parts.toList.map fun(i,x)=>(i,ox (σ) x)) (parts.toList.map fun(i,x)=>(i,a.eval x)):=z3U hS parts.toList
 obtain⟨r,g1,g2,g3⟩:=z3y _ _ _ zs ps out hf hp (by simp[hzsz]) (fun j y u hy hu=>by
  rw[List.getElem?_replicate] at hy
  split at hy
  ·simp at hy; subst hy; exact .un (hzo j u hu)
  ·cases hy) hpl
 refine⟨r,?_,g2,g3⟩
 have e1:(parts.map fun(i,x)=>(i,a.eval x)).toList=parts.toList.map fun(i,x)=>(i,a.eval x):=by simp
 have e2:¬ (n*sz>2^24):=by omega
 unfold Instr.buildSlice
 simp only[Sem.run_bind,run_underlying ht,Result.andThen_ok,sizeOf,typeInfo,run_program,hi,Sem.run_pure,hsz,e1]
 rw[if_neg e2]
 by_cases h0:n*sz=0
 ·have:zs=(Array.range (n*sz)).map ((#[]:Array Value)[· %(#[]:Array Value).size]!):=by simp[zs,h0]
  rw[this] at g1
  simp only[h0,if_true,Sem.run_pure,Sem.run_bind,Result.andThen_ok] at g1 ⊢
  rw[g1]
  rfl
 ·have:zs=(Array.range (n*sz)).map (z.cells[· %z.cells.size]!):=by simp[zs,h0]
  rw[this] at g1
  simp only[h0,if_false,Sem.run_pure,Sem.run_bind,Result.andThen_ok,zeroValue,typeInfo,run_program,hi,hz']
  rw[g1]
  rfl
theorem zgb {t e:TypeId} {sz by_:Nat} {c:Call} {x y:Operand} {px qs:List Prop} {j i k m:Nat} {cs xs:List Cell} {β:Nat→Option Nat} {F:Nat→Prop} {a:Act} {w:World} {τ:St} (hS0:SRb E β F σ a w) (hS:SRb E β F τ a w) (hop:o.op= .call c) (hc:c.callee= .builtin .append) (ha:c.args.toList= [x,y]) (hty:c.argTypes.toList= [t,t])
  (hE:Elt P t e sz by_) (hx:ox σ x=(px,.c (.own j sz 0 k))) (hb:τ.hp j= .cells cs) (hy:ox σ y=(qs,.c (.own i sz 0 m))) (hbi:τ.hp i= .cells xs) (hp:z03 (px++qs)) (hlen:cs.length=k*sz∧xs.length=m*sz∧0<k∧0<m∧0<sz)
  (hlim:k+m≤1000∧by_≤4096):
  ∃ v w',(execOp a.eval o).run P w= .ok (.value v) w'∧
    ((SRb E β F (τ.seth j (.cells (cs++xs))) a w'∧∃ g cap,v= .slice (some ⟨g,0,none⟩) (k+m) cap∧k+m≤cap∧cap≤maxLen∧β j=some g∧z0X w' g (.sz (0+cap*sz)))∨
     ∃ g cap cur,v= .slice (some ⟨g,0,none⟩) (k+m) cap∧k+m≤cap∧cap≤maxLen∧w.grownBy w' none∧w.heap.size≤g∧g<w'.heap.size∧Row w' g cur∧0+cap*sz≤cur.size∧(cs++xs).length≤cur.size∧∀(p:Nat) (x:Cell) (u:Value),(cs++xs)[p]? =some x→cur[p]? =some u→CellR β F w' x u):=by
 have hv1:=oxR hS0 x
 rw[hx] at hv1
 have hv1:=hv1 hp.left
 have hv2:=oxR hS0 y
 rw[hy] at hv2
 have hv2:=hv2 hp.right
 have hca:c.args= #[x,y]:=by apply Array.toList_inj.1; simpa using ha
 have hct:c.argTypes= #[t,t]:=by apply Array.toList_inj.1; simpa using hty
 generalize he1:a.eval x=v1 at hv1
 generalize he2:a.eval y=v2 at hv2
 dsimp only at hv1 hv2
 cases hv1 with | c hv1=>cases hv1 with | own _ _ _ _ ao cap hlc hmx hh=>
 cases hv2 with | c hv2=>cases hv2 with | own _ _ _ _ ad cap2 hlc2 hmx2 hh2=>
 obtain⟨n1,n2,n3,n4,n5⟩:=hlen
 obtain⟨l1,l2⟩:=hlim
 obtain⟨ht,ii,z,hi,hz,hsz,hby,hzs⟩:=hE
 have hgone:τ.hp j≠ .gone:=by rw[hb]; intro h; cases h
 have hB:=hS.hp j
 rw[hb] at hB
 have hB2:=hS.hp i
 rw[hbi] at hB2
 obtain⟨g,cur,hgj,hrow,hcs,hcc⟩:=hB
 obtain⟨g2,cur2,hgi,hrow2,hxs,hxc⟩:=hB2
 obtain⟨g',hg',rfl,hcap⟩:∃ g',β j=some g'∧ao=some ⟨g',0,none⟩∧z0X w g' (.sz (0+cap*sz)):=hh.resolve_left (by omega)
 obtain⟨g2',hg2',rfl,hcap2⟩:∃ g',β i=some g'∧ad=some ⟨g',0,none⟩∧z0X w g' (.sz (0+cap2*sz)):=hh2.resolve_left (by omega)
 rw[hgj] at hg'
 obtain rfl:=Option.some.inj hg'
 rw[hgi] at hg2'
 obtain rfl:=Option.some.inj hg2'
 have hcl:cap*sz≤cur.size:=by
  obtain⟨c3,⟨t3,f3,k3,_⟩,h3⟩:=hcap
  obtain⟨t4,f4,k4,_⟩:=hrow
  rw[k3] at k4
  simp only[Option.some.injEq,Obj.cells.injEq] at k4
  rw[←k4.1]; omega
 -- what is there, what comes
 have hbytes:(k+m)*by_≤140737488355328:=by
  have:(k+m)*by_≤1000*4096:=Nat.mul_le_mul l1 l2
  omega
 have h63:k+m≤maxLen:=by simp only[maxLen]; omega
 obtain⟨news,w1,w2⟩:∃ news:List Value,news=cur2.toList.take (m*sz)∧news.length=m*sz:=⟨_,rfl,by simp; omega⟩
 obtain⟨olds,o1,o2⟩:∃ olds:List Value,olds=cur.toList.take (k*sz)∧olds.length=k*sz:=⟨_,rfl,by simp; omega⟩
 have hn3:∀(p:Nat) (u:Value),news[p]? =some u→cur2[p]? =some u:=fun p u hu=>by
  rw[w1,List.getElem?_take] at hu
  split at hu
  ·simpa using hu
  ·cases hu
 have ho3:∀(p:Nat) (u:Value),olds[p]? =some u→cur[p]? =some u:=fun p u hu=>by
  rw[o1,List.getElem?_take] at hu
  split at hu
  ·simpa using hu
  ·cases hu
 have hnR:∀(p:Nat) (x:Cell) (u:Value),xs[p]? =some x→news[p]? =some u→CellR β F w x u:=fun p x u h1 h2=>hxc p x u h1 (hn3 p u h2)
 have hoR:∀(p:Nat) (x:Cell) (u:Value),cs[p]? =some x→olds[p]? =some u→CellR β F w x u:=fun p x u h1 h2=>hcc p x u h1 (ho3 p u h2)
 have hone:∀ v,v ∈ news→v.oneCell'=true:=fun v hv=>by
  obtain⟨p,hp1,rfl⟩:=List.mem_iff_getElem.1 hv
  exact(hnR p xs[p] _ (by simp[show p<xs.length by omega]) (by simp[hp1])).one
 have hallR:∀(p:Nat) (x:Cell) (u:Value),(cs++xs)[p]? =some x→(olds++news)[p]? =some u→CellR β F w x u:=fun p x u h1 h2=>by
  rw[List.getElem?_append] at h1 h2
  rw[o2] at h2
  rw[n1] at h1
  split at h1
  ·rename_i h3
   rw[if_pos h3] at h2
   exact hoR p x u h1 h2
  ·rename_i h3
   rw[if_neg h3] at h2
   exact hnR _ x u h1 h2
 have hfc:(Builtin.firstCells sz m (.slice (some ⟨g2,0,none⟩) m cap2)).run P w= .ok news.toArray w:=by
  simp only[Builtin.firstCells]
  exact z2p (fun p u hu=>by rw[Nat.zero_add,hrow2.cell]; exact hn3 p u hu) (by omega)
 by_cases hroom:k+m≤cap
 ·have hle:0+k*sz+news.length≤cur.size:=by
   have:(k+m)*sz≤cap*sz:=Nat.mul_le_mul_right _ hroom
   rw[Nat.add_mul] at this
   omega
  obtain⟨_,_,hnF⟩:=hS.own j g hgone hgj
  obtain⟨w',r1,r2⟩:=z1p (P:=P) (g:=g) (off:=k*sz) news 0 w cur hone hrow (by omega)
  simp only[Nat.add_zero] at r2
  have hle':k*sz+news.length≤cur.size:=by omega
  have hls:=z3H hle'
  have hrun:(Builtin.append_ #[t,t] o.type #[.slice (some ⟨g,0,none⟩) k cap,.slice (some ⟨g2,0,none⟩) m cap2]).run P w= .ok (.slice (some ⟨g,0,none⟩) (k+m) cap) w':=by
   simp[Builtin.append_,run_underlying ht,sizeOf,typeInfo,hi,hsz,Builtin.lenOf,hroom,hfc,z0C,r1]
  refine⟨_,w',z0O hop hc hca hct (by rw[he1,he2]; exact hrun),.inl ⟨?_,g,cap,rfl,hroom,hmx,hgj,_,r2.row,by rw[hls]; omega⟩⟩
  refine(hS.written hgone hgj hrow r2 hls (blk:= .cells (cs++xs)) ⟨g,_,hgj,r2.row,by rw[hls,List.length_append]; omega,fun p x u hx hu=>?_⟩).1
  rw[z3z hle'] at hu
  refine r2.cells hrow hls hnF ?_
  rw[List.getElem?_append] at hx
  rw[n1] at hx
  by_cases h1:p<k*sz
  ·rw[if_pos h1] at hx hu
   exact hcc p x u hx hu
  ·rw[if_neg h1] at hx hu
   have h2:=(List.getElem?_eq_some_iff.1 hx).1
   rw[if_pos (by omega)] at hu
   exact hnR _ x u hx hu
 ·obtain⟨v',w',hrun,hown,hgb⟩:=run_append_arg_grows (P:=P) w t o.type e ii z sz by_ ht hi hz hsz hby hzs n5 ⟨g,0,none⟩ k cap olds o2 (fun p u hu=>by rw[z0C,Nat.zero_add,hrow.cell]; exact ho3 p u hu)
   ⟨g2,0,none⟩ m cap2 news w2 (fun p u hu=>by rw[z0C,Nat.zero_add,hrow2.cell]; exact hn3 p u hu) (by omega) h63 hbytes
  obtain⟨hsz',hown⟩:=hown
  rcases hown with ⟨_,h0⟩ |⟨g',cap',cur',rfl,hg1,hg2,hn1,hn2,hn3',hn4⟩
  ·omega
  ·have hlt':g'<w'.heap.size:=(Array.getElem?_eq_some_iff.1 hg2).1
   have hrow':Row w' g' cur':=⟨e,(0,0),hg2,.inl rfl⟩
   have hlc:(olds++news).length≤cur'.size:=by
     rw[←hn4,List.length_take]
     simp only[Array.length_toList]
     omega
   have hbw:∀ b,b<w.heap.size→w'.heap[b]? =w.heap[b]?:=fun b hb=>hgb.block b hb (by simp)
   refine⟨_,w',z0O hop hc hca hct (by rw[he1,he2]; exact hrun),.inr ⟨g',cap',cur',rfl,hn1,hn2,hgb,hg1,hlt',hrow',by rw[hn3']; omega,by rw[List.length_append] at hlc ⊢; omega,fun p x u hx hu=>?_⟩⟩
   have hp2:=(List.getElem?_eq_some_iff.1 hx).1
   rw[List.length_append] at hp2
   have hu2:(olds++news)[p]? =some u:=by
     rw[←hn4,List.getElem?_take,if_pos (by rw[Nat.add_mul]; omega)]
     simpa using hu
   exact(hallR p x u hx hu2).mono (fun _ _ h=>h) (fun b hb=>⟨hb,hbw b (hS.fr b hb).1⟩) (fun gq nq hq=>hq.same (hbw gq hq.lt))
end
end Go.Sx

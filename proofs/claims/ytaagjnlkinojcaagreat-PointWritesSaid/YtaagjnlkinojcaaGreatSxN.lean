/-
  The layer: contracts that take lent rows away: such a row may come back as a new one. No condition.
-/
import Derived.Test.YtaagjnlkinojcaaGreatSxC
namespace Go.Sx
open Go
set_option linter.unusedVariables false
set_option linter.unusedSimpArgs false
structure FinM (σ:St) (r:Av) (nb:Nat) (ks:List Nat) (res:Av) (bor' news:List Blk):Prop where
 fres:r=res.ren (rho nb ks)
 fbor:z03 ((z0b 0 bor').map fun p=>p.2= .gone∨σ.hp p.1=p.2.ren (rho nb ks))
 fnews:z03 ((z0b nb news).map fun p=>σ.hp (rho nb ks p.1)=p.2.ren (rho nb ks))
 fok:(res.ok (nb+news.length)&&bor'.all (Blk.ok (nb+news.length))&&news.all (Blk.ok (nb+news.length))&&news.all (fun b=>match b with | .gone=>false | _=>true)&&Nat.beq ks.length news.length&&ks.all (fun k=>Nat.ble 64 k||(Nat.blt k nb&&(match bor'[k]? with | some .gone=>true | _=>false)))&&decide ks.Nodup)=true
theorem z17 {P:Program} {f:FuncId} {fn:Func} {c:Code} {args:List Av} {bor:List Blk} {res:Av} {bor' news:List Blk} (hf:P.funcs[f]? =some fn) (hb:fn.body=some c)
  (hnm:(fn.name== "runtime.NumGoroutine")=false) (hn:decide (args.length≤fn.ntmps)=true) (hnb:Nat.ble bor.length 64=true) (hlen:Nat.beq bor'.length bor.length=true)
  (h:∀ E:Env,E.n=fn.ntmps→E.nb=bor.length→
    W P E c (bodyPost P fn fun e w'=>∃ v β' F',e= .returned v∧AvR β' F' w' res v∧(∀ i b,bor'[i]? =some b→z0p β' F' w' i b)∧(∀ i b,news[i]? =some b→z0p β' F' w' (bor.length+i) b)∧
      OutM E.w0 E.M E.F0 bor.length news.length (z21 bor') E.β0 β' F' w') (.of (z0b 0 args) (z0b 0 bor))):CtM P f args bor res bor' news:=by
 refine⟨Nat.eq_of_beq_eq_true hlen,⟨fn,hf,hnm,by rw[hb]; rfl⟩,fun w β F vs hvl hvs hbor hinj hown hnone hF hgd=>?_⟩
 have hn':args.length≤fn.ntmps:=by simpa using hn
 have hnb':bor.length≤64:=by simpa using hnb
 refine(calls_of_wp hf hb (h ⟨w,fun g=>∃ i,i<bor.length∧β i=some g,fun b=>F b∨∃ i,i<bor.length∧β i=some b,fn.ntmps,bor.length,β,fun g h=>h,hgd,fun g h=> .inr h⟩ rfl rfl _ w ⟨β,F,fun i=>?_,?_,rfl,fun j=>?_,fun i j g hi hj=>?_,fun j g hj e=>?_,fun j g e=>?_,fun b hb=>⟨hF b hb,.inl (.inl hb)⟩,.refl _ _,fun i _=>rfl,hnb'⟩)).mono fun e w' hq=>?_
 ·simp only[St.of,z2X,Nat.zero_le,if_true,Nat.sub_zero]
  by_cases hi:i<args.length
  ·have h1:args[i]? =some args[i]:=by simp[hi]
   have h2:i<vs.length:=by omega
   rw[h1]
   simp only[Option.getD_some]
   refine hvs i args[i] _ h1 ?_
   simp[Array.getElem?_append,h2]
  ·have h1:args[i]? =none:=by simp; omega
   rw[h1]
   exact .any _
 ·simp[hvl]; omega
 ·simp only[St.of,z2X,Nat.zero_le,if_true,Nat.sub_zero]
  cases hb:bor[j]? with
  | none=>trivial
  | some b=>exact(hbor j b hb).1
 ·intro e1 e2
  simp only[St.of,z2X,Nat.zero_le,if_true,Nat.sub_zero] at hi hj
  have hi':i<bor.length:=by
   rcases Nat.lt_or_ge i bor.length with h | h
   ·exact h
   ·rw[List.getElem?_eq_none h] at hi; exact absurd rfl hi
  have hj':j<bor.length:=by
   rcases Nat.lt_or_ge j bor.length with h | h
   ·exact h
   ·rw[List.getElem?_eq_none h] at hj; exact absurd rfl hj
  exact hinj i j g hi' hj' e1 e2
 ·have hj':j<bor.length:=by
   simp only[St.of,z2X,Nat.zero_le,if_true,Nat.sub_zero] at hj
   rcases Nat.lt_or_ge j bor.length with h | h
   ·exact h
   ·rw[List.getElem?_eq_none h] at hj; exact absurd rfl hj
  obtain⟨a1,a2⟩:=hown j g hj' e
  exact⟨a1,.inr ⟨j,hj',e⟩,a2⟩
 ·rcases Nat.lt_or_ge j bor.length with h | h
  ·exact(hown j g h e).1
  ·rw[hnone j h] at e; cases e
 ·obtain⟨v,β',F',q1,q2,q3,q4,q5⟩:=hq
  refine⟨v,β',F',q1,q2,q3,q4,q5.hb,q5.inj,q5.own,q5.lt,q5.new,fun b hb=>⟨(q5.fr b hb).1,?_⟩,q5.keep⟩
  rcases (q5.fr b hb).2 with (h | h) | h | h
  ·exact .inl h
  ·exact .inr (.inr h)
  ·exact .inr (.inl h)
  ·exact .inr (.inr h)
theorem z8V {E:Env} {σ:St} {a:Act} {w:World} {β:Nat→Option Nat} {F:Nat→Prop} {r:Av} {v:Value} {ks:List Nat} {res:Av} {bor' news:List Blk} {nb:Nat} (hS:SRb E β F σ a w) (hr:AvR β F w r v)
  (hnb:E.nb=nb) (hlb:bor'.length=nb) (hf:FinM σ r nb ks res bor' news):
  ∃ β' F',AvR β' F' w res v∧(∀ i b,bor'[i]? =some b→z0p β' F' w i b)∧(∀ i b,news[i]? =some b→z0p β' F' w (nb+i) b)∧OutM E.w0 E.M E.F0 nb news.length (z21 bor') E.β0 β' F' w:=by
 obtain⟨f1,f2,f3,f4⟩:=hf
 simp only[Bool.and_eq_true] at f4
 obtain⟨⟨⟨⟨⟨⟨o1,o2⟩,o3⟩,o4⟩,o5⟩,o6⟩,o7⟩:=f4
 have hkl:ks.length=news.length:=Nat.eq_of_beq_eq_true o5
 have hnd:ks.Nodup:=by simpa using o7
 have hρ1:∀ i,i<nb→rho nb ks i=i:=fun i hi=>by simp only[rho,show Nat.blt i nb=true from Nat.blt_eq.symm▸hi]
 have hρ2:∀ i,i<news.length→rho nb ks (nb+i)=ks.getD i 0:=fun i hi=>by
  have:Nat.blt (nb+i) nb=false:=by
   cases h:Nat.blt (nb+i) nb with
   | false=>rfl
   | true=>rw[Nat.blt_eq] at h; omega
  simp only[rho,this,Nat.add_sub_cancel_left]
 have hB1:∀ i b,bor'[i]? =some b→b= .gone∨σ.hp i=b.ren (rho nb ks):=fun i b hi=>by
  have:=z1U f2 _ (z2r bor' 0 i b hi)
  simpa using this
 have hB2:∀ i b,news[i]? =some b→σ.hp (rho nb ks (nb+i))=b.ren (rho nb ks):=fun i b hi=>by
  have:=z1U f3 _ (z2r news nb i b hi)
  simpa using this
 have hren:∀ b:Blk,b≠ .gone→b.ren (rho nb ks)≠ .gone:=by intro b hb; cases b<;>simp_all [Blk.ren]
 have hl1:∀ i,i<nb→¬ z21 bor' i→σ.hp i≠ .gone:=fun i hi hg=>by
  have h1:bor'[i]? =some (bor'[i]'(by omega)):=by simp[show i<bor'.length by omega]
  rcases hB1 i _ h1 with h | h
  ·exact absurd (by unfold z21; rw[h1,h]) hg
  ·rw[h]
   exact hren _ (fun e=>hg (by unfold z21; rw[h1,e]))
 have hl2:∀ i,i<news.length→σ.hp (rho nb ks (nb+i))≠ .gone:=fun i hi=>by
  have h1:news[i]? =some news[i]:=by simp[hi]
  rw[hB2 i _ h1]
  refine hren _ ?_
  have:=List.all_eq_true.1 o4 news[i] (List.getElem_mem hi)
  intro e
  rw[e] at this
  cases this
 have hk64:∀ i,i<news.length→64≤rho nb ks (nb+i)∨(rho nb ks (nb+i)<nb∧z21 bor' (rho nb ks (nb+i))):=fun i hi=>by
  rw[hρ2 i hi]
  have hm:ks.getD i 0 ∈ ks:=by
   rw[List.getD_eq_getElem?_getD,List.getElem?_eq_getElem (by omega),Option.getD_some]
   exact List.getElem_mem _
  have h6:=List.all_eq_true.1 o6 _ hm
  generalize ks.getD i 0=k at*
  rcases Bool.or_eq_true_iff.1 h6 with h6 | h6
  ·exact .inl (by simpa using h6)
  ·obtain⟨h7,h8⟩:=(Bool.and_eq_true_iff).1 h6
   refine .inr ⟨by rwa[Nat.blt_eq] at h7,?_⟩
   unfold z21
   revert h8
   cases bor'[k]? with
   | none=>intro h; cases h
   | some b=>cases b<;>intro h<;>first | rfl | cases h
 have hlive':∀ i,i<nb+news.length→¬ z21 bor' i→σ.hp (rho nb ks i)≠ .gone:=fun i hi hg=>by
  rcases Nat.lt_or_ge i nb with h | h
  ·rw[hρ1 i h]; exact hl1 i h hg
  ·obtain⟨d,rfl⟩:∃ d,i=nb+d:=⟨i -nb,by omega⟩
   exact hl2 d (by omega)
 have hρinj:∀ i j,i<nb+news.length→j<nb+news.length→¬ z21 bor' i→¬ z21 bor' j→rho nb ks i=rho nb ks j→i=j:=fun i j hi hj gi gj e=>by
  have hn64:=hS.nbl
  rcases Nat.lt_or_ge i nb with h | h
  ·rcases Nat.lt_or_ge j nb with h' | h'
   ·rw[hρ1 i h,hρ1 j h'] at e; exact e
   ·obtain⟨d,rfl⟩:∃ d,j=nb+d:=⟨j -nb,by omega⟩
    have:=hk64 d (by omega)
    rw[←e,hρ1 i h] at this
    rcases this with this | this
    ·omega
    ·exact absurd this.2 gi
  ·obtain⟨d,rfl⟩:∃ d,i=nb+d:=⟨i -nb,by omega⟩
   rcases Nat.lt_or_ge j nb with h' | h'
   ·have:=hk64 d (by omega)
    rw[e,hρ1 j h'] at this
    rcases this with this | this
    ·omega
    ·exact absurd this.2 gj
   ·obtain⟨d',rfl⟩:∃ d,j=nb+d:=⟨j -nb,by omega⟩
    rw[hρ2 d (by omega),hρ2 d' (by omega)] at e
    rw[List.getD_eq_getElem?_getD,List.getD_eq_getElem?_getD,List.getElem?_eq_getElem (by omega),List.getElem?_eq_getElem (by omega),Option.getD_some,Option.getD_some] at e
    have:=(List.getElem_inj hnd).1 e
    omega
 refine⟨fun i=>β (rho nb ks i),F,(f1▸hr).unren (fun _ _=>rfl) o1,fun i b hi=>?_,fun i b hi=>?_,fun i hi=>?_,fun i j g hi hj gi gj e1 e2=>hρinj i j hi hj gi gj (hS.inj _ _ g (hlive' i hi gi) (hlive' j hj gj) e1 e2),fun j g hj gj e=>?_,fun j g hj e=>hS.lt _ g e,fun i g hi e=>?_,fun b hb=>⟨(hS.fr b hb).1,(hS.fr b hb).2.imp id .inl⟩,hS.keep⟩
 ·have hlt:i<nb:=by rw[←hlb]; exact(List.getElem?_eq_some_iff.1 hi).1
  refine z0p.unren (ρ:=rho nb ks) (n:=nb+news.length) (fun _ _=>rfl) ?_ (by omega) (List.all_eq_true.1 o2 b (List.mem_of_getElem? hi))
  rcases hB1 i b hi with h | h
  ·subst h; trivial
  ·rw[hρ1 i hlt,←h]
   exact hS.hp i
 ·refine z0p.unren (ρ:=rho nb ks) (n:=nb+news.length) (fun _ _=>rfl) ?_ (by have:=(List.getElem?_eq_some_iff.1 hi).1; omega) (List.all_eq_true.1 o3 b (List.mem_of_getElem? hi))
  rw[←hB2 i b hi]
  exact hS.hp _
 ·simp only[hρ1 i hi]
  exact hS.bb i (by omega)
 ·obtain⟨a1,_,a3⟩:=hS.own _ g (hlive' j hj gj) e
  exact⟨a1,a3⟩
 ·obtain⟨_,a2,_⟩:=hS.own _ g (hl2 i hi) e
  rcases a2 with a2 | a2
  ·exact .inl a2
  ·obtain⟨k,hk,hk'⟩:=E.hM g a2
   rw[hnb] at hk
   by_cases gk:z21 bor' k
   ·exact .inr ⟨k,hk,gk,hk'⟩
   exfalso
   have e':β k=some g:=(hS.bb k (by omega)).trans hk'
   have hik:=hS.inj _ _ g (hl2 i hi) (hl1 k hk gk) e e'
   have h64:=hk64 i hi
   have:=hS.nbl
   rcases h64 with h64 | h64
   ·omega
   ·exact gk (hik▸h64.2)
theorem zpH {P:Program} {E:Env} {σ:St} {fn:Func} {ps:List Prop} {r res:Av} {bor' news:List Blk} {nb:Nat} (ks:List Nat) (hr:z4t P σ fn.results.toList=some (ps,r)) (hp:z03 ps) (hf:FinM σ r nb ks res bor' news)
  (hnb:E.nb=nb) (hlb:bor'.length=nb):
  N E (bodyPost P fn fun e w'=>∃ v β' F',e= .returned v∧AvR β' F' w' res v∧(∀ i b,bor'[i]? =some b→z0p β' F' w' i b)∧(∀ i b,news[i]? =some b→z0p β' F' w' (nb+i) b)∧OutM E.w0 E.M E.F0 nb news.length (z21 bor') E.β0 β' F' w') .ret σ:=by
 intro a w hS
 obtain⟨β,F,hS⟩:=hS
 obtain⟨v,h1,h2⟩:=z4u hS hr hp
 obtain⟨β',F',g1,g2,g3,g4⟩:=z8V hS h2 hnb hlb hf
 exact⟨hS.df,v,h1,v,β',F',rfl,g1,g2,g3,g4⟩
theorem z5Z {P:Program} {E:Env} {σ:St} {fn:Func} {ps:List Prop} {r res:Av} {bor' news:List Blk} {nb:Nat} (ks:List Nat) (hr:z4t P σ fn.results.toList=some (ps,r)) (hp:z03 ps) (hf:FinM σ r nb ks res bor' news)
  (hnb:E.nb=nb) (hlb:bor'.length=nb):
  N E (bodyPost P fn fun e w'=>∃ v β' F',e= .returned v∧AvR β' F' w' res v∧(∀ i b,bor'[i]? =some b→z0p β' F' w' i b)∧(∀ i b,news[i]? =some b→z0p β' F' w' (nb+i) b)∧OutM E.w0 E.M E.F0 nb news.length (z21 bor') E.β0 β' F' w') .normal σ:=by
 intro a w hS
 obtain⟨β,F,hS⟩:=hS
 obtain⟨v,h1,h2⟩:=z4u hS hr hp
 obtain⟨β',F',g1,g2,g3,g4⟩:=z8V hS h2 hnb hlb hf
 exact⟨hS.df,v,h1,v,β',F',rfl,g1,g2,g3,g4⟩
theorem zfI {P:Program} {E:Env} {σ:St} {a:Act} {w:World} {β:Nat→Option Nat} {F:Nat→Prop} {f:FuncId} {xs ys:List Av} {bor:List Blk} {res:Av} {bor' news:List Blk} {bs:List Nat} {d:Option Nat} {vs:List Value}
  (hF:CtM P f xs bor res bor' news) (hS:SRb E β F σ a w) (hnew:∀ i,β (nk d i)=none∨news.length≤i) (hC:CallOk σ ys xs bor res bor' news bs d)
  (hvl:vs.length=ys.length) (hvs:∀(i:Nat) (y:Av) (v:Value),ys[i]? =some y→vs[i]? =some v→AvR β F w y v):
  Calls P f vs.toArray w fun e w'=>∃ v,e= .returned v∧∃ β' F',AvR β' F' w' (res.ren (z0B bs d news.length)) v∧SRb E β' F' (z0u σ bs d bor' news) a w':=by
 refine(z5a hF hS hnew hC hvl hvs).mono fun e w' h=>?_
 obtain⟨v,e1,β',F',h1,_,_,h2⟩:=h
 exact⟨v,e1,β',F',h1,h2⟩
section
variable {P:Program} {E:Env} {ops:Array Oper} {Q:Exit→Act→World→Prop} {rest:List Oper} {o:Oper} {σ:St}
theorem z2D {c:Call} {fo:Operand} {f:FuncId} {first cap:List Cell} {pf:List Prop} {xs:List Av} {bor:List Blk} {res:Av} {bor' news:List Blk} (bs:List Nat) (hF:CtM P f xs bor res bor' news)
  (hop:o.op= .call c) (hg:o.guard=none) (hd:z0e E.n o.dst=true) (hcv:c.callee= .value fo) (hfo:ox (σ.kills (z07 o.dst news.length)) fo=(pf,.c (.fn (.func f) first cap)))
  (hp:z03 (pf++(oxs (σ.kills (z07 o.dst news.length)) c.args.toList).1))
  (hC:CallOk (σ.kills (z07 o.dst news.length)) (first.map Av.c++(oxs (σ.kills (z07 o.dst news.length)) c.args.toList).2++cap.map Av.c) xs bor res bor' news bs o.dst)
  (hk:WL P E ops Q rest ((z0u (σ.kills (z07 o.dst news.length)) bs o.dst bor' news).put o.dst (res.ren (z0B bs o.dst news.length)))):WL P E ops Q (o::rest) σ:=by
 intro a w hS
 refine wpList_plain hg fun K hK=>?_
 obtain⟨β0,F,hS0⟩:=hS
 obtain⟨β,hS,hnone⟩:=hS0.kills (z07 o.dst news.length) (fun k hk=>by
  obtain⟨i,_,rfl⟩:=(z1y _ _).1 hk
  have:=hS0.nbl
  simp only[nk]; omega)
 generalize σ.kills (z07 o.dst news.length)=τ at*
 have hfv:=oxR hS fo
 rw[hfo] at hfv
 have hfv:=hfv hp.left
 generalize hv:a.eval fo=fv at hfv
 cases hfv with | c hfv=>cases hfv with | fn _ _ _ f1 c1 n1 n2 r1 r2=>
 obtain⟨l1,l2⟩:=z59 hS c.args.toList hp.right
 have hrun:(execOp a.eval o).run P w= .ok (.enter f (f1++c.args.map a.eval++c1)) w:=by
  simp only[execOp,hop,resolve,hcv,hv,Deferred.ofValue,Sem.run_bind,Sem.run_pure,Result.andThen_ok,invoke]
  exact z22 hF.2.1
 unfold Oper.wp
 rw[hrun,Oper.upon_enter]
 have hcore:=zfI (vs:=(f1++c.args.map a.eval++c1).toList) hF hS (fun i=>by
  rcases Nat.lt_or_ge i news.length with h | h
  ·exact .inl (hnone _ (.inr ((z1y _ _).2 ⟨i,h,rfl⟩)))
  ·exact .inr h) hC (by simp[n1,n2,l1]) (fun i y v hy hv=>by
   simp only[Array.toList_append,List.append_assoc] at hv
   rw[List.append_assoc] at hy
   rcases Nat.lt_or_ge i first.length with h | h
   ·rw[List.getElem?_append_left (by simpa using h)] at hy
    rw[List.getElem?_append_left (by simp[n1]; exact h)] at hv
    rw[List.getElem?_map,Option.map_eq_some_iff] at hy
    obtain⟨x,hx,rfl⟩:=hy
    exact .c (r1 i x v hx (by simpa using hv))
   ·rw[List.getElem?_append_right (by simpa using h)] at hy
    rw[List.getElem?_append_right (by simp[n1]; exact h)] at hv
    simp only[List.length_map,Array.length_toList,n1] at hy hv
    rcases Nat.lt_or_ge (i -first.length) c.args.toList.length with h' | h'
    ·rw[List.getElem?_append_left (by rw[l1]; exact h')] at hy
     rw[List.getElem?_append_left (by simpa using h')] at hv
     exact l2 _ y v hy (by simpa using hv)
    ·rw[List.getElem?_append_right (by rw[l1]; exact h')] at hy
     rw[List.getElem?_append_right (by simpa using h')] at hv
     rw[List.getElem?_map,Option.map_eq_some_iff] at hy
     obtain⟨x,hx,rfl⟩:=hy
     refine .c (r2 _ x v hx ?_)
     simp only[l1] at hx
     simpa[l1] using hv)
 rw[Array.toArray_toList] at hcore
 refine hcore.mono fun e w' hq=>?_
 obtain⟨v,rfl,β',F',hv',hS'⟩:=hq
 exact hK _ _ (hk _ _ ⟨β',F',hS'.put hv' (z0x hd)⟩)
end
end Go.Sx

/-
  Oids that are read stand as they would be written, and what is written is read as it was. Plain (lines of A12, A20, A23 under other names).
-/
import Derived.Test.YtaagjnlkinojcaaGreatSxQ
import Derived.Test.YtaagjnlkinojcaaGreatE7
import Derived.Test.YtaagjnlkinojcaaGreatC12
import Derived.Test.YtaagjnlkinojcaaGreatD15
namespace Go.Sx
open Go
set_option linter.unusedVariables false
set_option linter.unusedSimpArgs false
theorem z94 {α:Type} {f:α→Prop}:∀ {l:List α},(∀ p,p ∈ l→f p)→z03 (l.map f)
 | [],_=>trivial
 | [p],h=>h p (List.mem_singleton.2 rfl)
 | p::q::l,h=>⟨h p (List.mem_cons_self ..),z94 (l:=q::l) fun r hr=>h r (List.mem_cons_of_mem _ hr)⟩
theorem z7K {α:Type}:∀(l:List α) (n:Nat) (p:Nat×α),p ∈ z0e n l→∃ i:Nat,p.1=n+i∧l[i]? =some p.2
 | [],n,p,h=>by cases h
 | y::l,n,p,h=>by
   rcases List.mem_cons.1 h with rfl | h
   ·exact⟨0,rfl,rfl⟩
   ·obtain⟨i,h1,h2⟩:=z7K l (n+1) p h
    exact⟨i+1,by omega,h2⟩
theorem z8o:∀ {l:List (Nat×Blk)} {k:Nat},k ∉ l.map (·.1)→z0R l k=none
 | [],k,_=>rfl
 |(j,b)::l,k,h=>by
  simp only[List.map_cons,List.mem_cons,not_or] at h
  simp only[z0R,show Nat.beq k j=false from Bool.eq_false_iff.2 fun e=>h.1 (Nat.eq_of_beq_eq_true e)]
  exact z8o h.2
theorem z95:∀ {l:List (Nat×Blk)} {k:Nat},z0R l k=none→k ∉ l.map (·.1)
 | [],k,_=>by simp
 |(j,b)::l,k,h=>by
  simp only[z0R] at h
  cases hb:Nat.beq k j with
  | true=>rw[hb] at h; cases h
  | false=>
    rw[hb] at h
    simp only[List.map_cons,List.mem_cons,not_or]
    exact⟨fun e=>(by rw[e,Nat.beq_refl] at hb; cases hb),z95 h⟩
theorem z96:∀(l:List (Nat×Blk)) (σ:St),(l.map (·.1)).Nodup→σ.sets l=⟨σ.tm,z1a σ.hp l⟩
 | [],σ,_=>rfl
 |(j,b)::l,σ,h=>by
  simp only[List.map_cons,List.nodup_cons] at h
  show(σ.seth j b).sets l=_
  rw[z96 l _ h.2]
  refine congrArg (St.mk σ.tm) ?_
  funext i
  rw[z5y,z5y]
  simp only[z0R]
  cases hb:Nat.beq i j with
  | true=>
    rw[Nat.eq_of_beq_eq_true hb,z8o h.1]
    simp[St.seth]
  | false=>
    have:i≠j:=fun e=>by rw[e,Nat.beq_refl] at hb; cases hb
    dsimp only
    cases z0R l i<;>simp[St.seth,this]
theorem z97:∀(l m:List (Nat×Blk)) (σ:St),(σ.sets l).sets m=σ.sets (l++m)
 | [],m,σ=>rfl
 |(j,b)::l,m,σ=>z97 l m (σ.seth j b)
section
variable {P:Program} {E:Env} {ops:Array Oper} {o:Oper} {σ:St}
theorem zjX (d:Option Nat):∀ n,(z08 d n).length=n:=by intro n; induction n with
 | zero=>rfl
 | succ n ih=>simp[z08,ih]
theorem zrc {ns b own:List Nat} {bs:List (List Nat×List Nat)} {l:List Oper} {K:St→Prop} {c:Call} {fo:Operand} {f:FuncId} {first cap:List Cell} {pf:List Prop} {xs:List Av} {bor bor':List Blk} {news:List Blk} {res:Av} {nt dn:Nat} (ks:List Nat) (hn:E.n=nt) (hF:Ct P f xs bor res bor' news) (hop:o.op= .call c) (hg:o.guard=none) (hd:o.dst=some dn) (hE0:z0d nt o.dst=true)
  (hcv:c.callee= .value fo) (hfo:ox ⟨σ.tm,fgt b σ.hp⟩ fo=(pf,.c (.fn (.func f) first cap))) (hC:CallOk ⟨σ.tm,fgt b σ.hp⟩ (first.map Av.c++(oxs ⟨σ.tm,fgt b σ.hp⟩ c.args.toList).2++cap.map Av.c) xs bor res bor' news ks (some dn))
  (hp:z03 (pf++(oxs ⟨σ.tm,fgt b σ.hp⟩ c.args.toList).1)) (hlen:ks.length=bor'.length) (hns:news.length=0∨(news.length=1∧z0b (nk (some dn) 0) ns=true)) (hown:(ks++z08 (some dn) news.length).all (fun k=>z0b k own)=true)
  (hk:z0c P E ops ns bs l ((z0u σ ks (some dn) bor' news).put (some dn) (res.ren (z0A ks (some dn) news.length))) K):z0c P E ops ns ((b,own)::bs) (o::l) σ K:=by
 have hnd:(ks++z08 (some dn) news.length).Nodup:=by
  have:=hC.cok
  simp only[Bool.and_eq_true] at this
  simpa using this.2
 obtain⟨u,hu⟩:∃ u,z4A ks (bor'.map (Blk.ren (z0A ks (some dn) news.length)))++z4A (z08 (some dn) news.length) (news.map (Blk.ren (z0A ks (some dn) news.length)))=u:=⟨_,rfl⟩
 have hfst:u.map (·.1)=ks++z08 (some dn) news.length:=by
  rw[←hu,List.map_append,z2Z _ _ (by simpa using hlen),z2Z _ _ (by simp[zjX])]
 have eaf:∀ τ:St,z0u τ ks (some dn) bor' news=⟨τ.tm,z1a τ.hp u⟩:=fun τ=>by
  unfold z0u
  rw[z97,hu]
  exact z96 u τ (by rw[hfst]; exact hnd)
 rw[eaf] at hk
 refine z3u (x:=res.ren (z0A ks (some dn) news.length)) (u:=u) ?_ (fun j hj=>?_) (by rw[hd]; exact hk)
 ·intro τ hl β F a w hS hnn KK Q hK
  rw[show Region.wanted o (yielded ops a.tmps)=true by simp[Region.wanted,hg],if_pos rfl]
  have hcut:SRb E β F ⟨τ.tm,fgt b σ.hp⟩ a w:=hS.cut hl
  have x1:ox ⟨τ.tm,fgt b σ.hp⟩ fo=ox ⟨σ.tm,fgt b σ.hp⟩ fo:=hl.ox fo (by rw[hop]; simp[Op.operands,Call.operands,hcv])
  have x2:oxs ⟨τ.tm,fgt b σ.hp⟩ c.args.toList=oxs ⟨σ.tm,fgt b σ.hp⟩ c.args.toList:=z4l (o:=o) (τ:=⟨τ.tm,fgt b σ.hp⟩) (σ:=⟨σ.tm,fgt b σ.hp⟩) (fun y hy=>hl.ox y hy) _ fun y hy=>by
   rw[hop]; simp only[Op.operands,Call.operands]; simp at hy ⊢; first | exact .inr hy | exact .inl hy | simp[hy]
  have hfv:=oxR hcut fo
  rw[x1,hfo] at hfv
  have hfv:=hfv hp.left
  generalize hv:a.eval fo=fv at hfv
  cases hfv with | c hfv=>cases hfv with | fn _ _ _ f1 c1 n1 n2 r1 r2=>
  obtain⟨l1,l2⟩:=z52 hcut c.args.toList (by rw[x2]; exact hp.right)
  rw[x2] at l1 l2
  have hrun:(execOp a.eval o).run P w= .ok (.enter f (f1++c.args.map a.eval++c1)) w:=by
   simp only[execOp,hop,resolve,hcv,hv,Deferred.ofValue,Sem.run_bind,Sem.run_pure,Result.andThen_ok,invoke]
   exact z1Y hF.2.1
  unfold Oper.wp
  rw[hrun,Oper.upon_enter]
  have hbor:∀ i blk,bor[i]? =some blk→τ.hp (ks.getD i 0)=blk.ren (z0A ks (some dn) news.length):=fun i blk hi=>by
   have h1:=z1N hC.cbor _ (z2q bor 0 i blk hi)
   have h2:=z1N hC.cgone _ (z2q bor 0 i blk hi)
   have h1:fgt b σ.hp (ks.getD i 0)=blk.ren (z0A ks (some dn) news.length):=by simpa using h1
   have h2:blk≠ .gone:=by simpa using h2
   rw[z9K] at h1
   cases hb:z0b (ks.getD i 0) b with
   | true=>
     rw[hb] at h1
     exact absurd h1.symm (Blk.ren_ne h2)
   | false=>
     rw[hb] at h1
     rw[hl.hp _ hb]
     exact h1
  have hC2:CallOk τ (first.map Av.c++(oxs ⟨σ.tm,fgt b σ.hp⟩ c.args.toList).2++cap.map Av.c) xs bor res bor' news ks (some dn):=⟨hC.cargs,z94 fun p hp=>by
   obtain⟨i,blk⟩:=p
   obtain⟨k,hk1,hk2⟩:=z7K bor 0 _ hp
   dsimp only at hk1 ⊢
   have:=hbor k blk hk2
   rw[hk1,Nat.zero_add]
   exact this,hC.cgone,hC.cok⟩
  have hcore:=z6S (σ:=τ) (bs:=ks) (d:=some dn) (vs:=(f1++c.args.map a.eval++c1).toList) hF hS (fun i=>by
   rcases hns with h0 |⟨h0,h1⟩
   ·exact .inr (by omega)
   ·rcases Nat.lt_or_ge i 1 with h | h
    ·obtain rfl:i=0:=by omega
     exact .inl (hnn dn hd h1)
    ·exact .inr (by omega)) hC2 (by simp[n1,n2,l1]) (fun i y v hy hv=>by
   simp only[Array.toList_append,List.append_assoc] at hv
   rw[List.append_assoc] at hy
   rcases Nat.lt_or_ge i first.length with h | h
   ·rw[List.getElem?_append_left (by simpa using h)] at hy
    rw[List.getElem?_append_left (by simp[n1]; exact h)] at hv
    rw[List.getElem?_map,Option.map_eq_some_iff] at hy
    obtain⟨x,hx,rfl⟩:=hy
    exact .c (r1 i x v hx (by simpa using hv))
   ·rw[List.getElem?_append_right (by simpa using h)] at hy
    rw[List.getElem?_append_right (by simp[n1]; exact h)] at hv
    simp only[List.length_map,Array.length_toList,n1] at hy hv
    rcases Nat.lt_or_ge (i -first.length) c.args.toList.length with h' | h'
    ·rw[List.getElem?_append_left (by rw[l1]; exact h')] at hy
     rw[List.getElem?_append_left (by simpa using h')] at hv
     exact l2 _ y v hy (by simpa using hv)
    ·rw[List.getElem?_append_right (by rw[l1]; exact h')] at hy
     rw[List.getElem?_append_right (by simpa using h')] at hv
     rw[List.getElem?_map,Option.map_eq_some_iff] at hy
     obtain⟨x,hx,rfl⟩:=hy
     refine .c (r2 _ x v hx ?_)
     simp only[l1] at hx
     simpa[l1] using hv)
  rw[Array.toArray_toList] at hcore
  refine hcore.mono fun e w' hq=>?_
  obtain⟨v,rfl,β',F',hv',hβ',hS'⟩:=hq
  rw[eaf] at hS'
  refine hK _ _ β' F' ?_ fun k hk=>hβ' k fun hm=>z95 hk (by rw[hfst]; exact List.mem_append_right _ hm)
  rw[hd]
  exact hS'.put hv' (z0x (by rw[hn,←hd]; exact hE0))
 ·have hm:j ∈ ks++z08 (some dn) news.length:=by
   rw[←hfst]
   exact Classical.not_not.1 fun h=>hj (z8o h)
  exact List.all_eq_true.1 hown j hm
theorem z6V {ns b own:List Nat} {bs:List (List Nat×List Nat)} {l:List Oper} {K:St→Prop} {c:Call} {fo:Operand} {f:FuncId} {first cap:List Cell} {pf:List Prop} {xs:List Av} {bor bor':List Blk} {news:List Blk} {res:Av} {nt dn:Nat} (ks:List Nat) (hn:E.n=nt) (hF:Ct P f xs bor res bor' news)
  (hk:z0c P E ops ns bs l ((z0u σ ks (some dn) bor' news).put (some dn) (res.ren (z0A ks (some dn) news.length))) K) (hop:o.op= .call c:=by exact rfl) (hg:o.guard=none:=by exact rfl) (hd:o.dst=some dn:=by exact rfl) (hE0:z0d nt o.dst=true:=by exact rfl)
  (hcv:c.callee= .value fo:=by exact rfl) (hfo:ox ⟨σ.tm,fgt b σ.hp⟩ fo=(pf,.c (.fn (.func f) first cap)):=by exact rfl)
  (h1:first.map Av.c++(oxs ⟨σ.tm,fgt b σ.hp⟩ c.args.toList).2++cap.map Av.c=xs.map (Av.ren (z0A ks (some dn) news.length)):=by exact rfl)
  (h2:z03 ((z0e 0 bor).map fun p=>(St.mk σ.tm (fgt b σ.hp)).hp (ks.getD p.1 0)=p.2.ren (z0A ks (some dn) news.length)):=by first | trivial | exact rfl | exact⟨rfl,rfl⟩ | exact⟨rfl,rfl,rfl⟩)
  (h3:z03 ((z0e 0 bor).map fun p=>p.2≠ .gone):=by first | trivial |(simp[z0e]; done) | fail)
  (h4:(xs.all (Av.ok ks.length)&&bor.all (Blk.ok ks.length)&&res.ok (ks.length+news.length)&&bor'.all (Blk.ok (ks.length+news.length))&&news.all (Blk.ok (ks.length+news.length))&&Nat.beq ks.length bor.length&&decide (ks++z08 (some dn) news.length).Nodup)=true:=by exact rfl)
  (hp:z03 (pf++(oxs ⟨σ.tm,fgt b σ.hp⟩ c.args.toList).1):=by exact vcs) (hlen:ks.length=bor'.length:=by exact rfl) (hns:news.length=0∨(news.length=1∧z0b (nk (some dn) 0) ns=true):=by first | exact .inl rfl | exact .inr ⟨rfl,rfl⟩) (hown:(ks++z08 (some dn) news.length).all (fun k=>z0b k own)=true:=by exact rfl):z0c P E ops ns ((b,own)::bs) (o::l) σ K:=
 zrc ks hn hF hop hg hd hE0 hcv hfo ⟨h1,h2,h3,h4⟩ hp hlen hns hown hk
theorem z6l {Q:Exit→Act→World→Prop} {id:Nat} {l:List Oper} {bs:List (List Nat×List Nat)} (ns:List Nat) (ws:List (Nat×Nat)) (h:z0c P E l.toArray ns bs l (σ.kills ns) (fun τ=>WL P E l.toArray Q [] τ)) (hm:P.follows .mixedOrders=true:=by kernel_rfl)
 (hbs:z4D (z76 l.toArray ws 0 l) some=some bs:=by exact rfl) (hB:z77 l.toArray l ns ws=true:=by kernel_rfl) (h64:ns.all (Nat.ble 64)=true:=by exact rfl):W P E (.region id l.toArray true) Q σ:=z8u ns ws hm hB hbs h64 h
end
end Go.Sx
namespace Go.Proofs.YtaagjnlkinojcaaGreat
set_option linter.unusedSimpArgs false
set_option linter.unusedVariables false
open Go.Sx
set_option maxRecDepth 10000
abbrev e0:ExT:=([],false,[])
theorem z6v {n:Int} (h:0≤n∧n≤2147483647):inR n=true:=by simp[inR]; omega
theorem zf6 {n:Int} (h:0≤n∧n≤2147483647):z0V (z3F n)=true:=by
 unfold z3F
 by_cases c:n<80
 ·rw[if_pos c,z1J,if_neg (by simp)]
  have h1:([n/40,n%40]:List Int).all inR=true:=by
   simp only[List.all_cons,List.all_nil,Bool.and_true,Bool.and_eq_true]
   exact⟨z6v (by omega),z6v (by omega)⟩
  rw[if_neg (by rw[h1]; simp),if_pos (by omega)]
  simp; omega
 ·rw[if_neg c,z1J,if_neg (by simp)]
  have h1:([2,n -80]:List Int).all inR=true:=by
   simp only[List.all_cons,List.all_nil,Bool.and_true,Bool.and_eq_true]
   exact⟨z6v (by omega),z6v (by omega)⟩
  rw[if_neg (by rw[h1]; simp),if_neg (by omega),if_pos rfl]
  simp; omega
theorem zdA {o:List Int} {n:Int} (ho:z0V o=true) (hl:o.length≠32) (h:0≤n∧n≤2147483647):z0V (o++ [n])=true:=by
 match o,ho with
 | a::b::t,ho=>
   rw[List.cons_append,List.cons_append,z1J]
   rw[z1J] at ho
   by_cases c1:30<t.length
   ·rw[if_pos c1] at ho; cases ho
   ·rw[if_neg c1] at ho
    by_cases c2:(a::b::t).all inR=false
    ·rw[if_pos c2] at ho; cases ho
    ·rw[if_neg c2] at ho
     rw[if_neg (by simp at hl ⊢; omega)]
     have h1:(a::b::(t++ [n])).all inR=true:=by
      rw[Bool.not_eq_false] at c2
      rw[←List.cons_append,←List.cons_append,List.all_append,c2]
      simp[z6v h]
     rw[if_neg (by rw[h1]; simp)]
     exact ho
theorem z9C (l:List Int) (hw:WfB l):∀(k p:Nat) (o:List Int),l.length -p<k→(z0V o=true∨(o= []∧p<l.length))→(prA k l p o).2=0→z0V (prA k l p o).1=true
 | 0,p,o,h,_,_=>by omega
 | k+1,p,o,h,ho,he=>by
   unfold prA at he ⊢
   by_cases hp:p<l.length
   ·rw[if_pos hp] at he ⊢
    dsimp only at he ⊢
    have hn:=(z5S (l.drop p) p 0 true).2.2 (by rw[z25 l p hp]; simp)
    have hr:=z6x (l.drop p) p 0 true (by omega) (fun x hx=>hw x (List.mem_of_mem_drop hx))
    split at he
    ·rename_i h1
     rw[if_pos h1]
     split at he
     ·simp at he
     ·rename_i h2
      rw[if_neg h2]
      refine z9C l hw k _ _ (by omega) (.inl ?_) he
      rcases ho with ho |⟨rfl,_⟩
      ·have:¬ o.length=0:=by
        intro h; rw[List.eq_nil_of_length_eq_zero h] at ho; cases ho
       rw[if_neg this]
       exact zdA ho h2 hr
      ·rw[if_pos (by rfl),List.nil_append]
       exact zf6 hr
    ·rename_i h1
     exact absurd he h1
   ·rw[if_neg hp]
    rcases ho with ho |⟨_,h⟩
    ·exact ho
    ·exact absurd h hp
theorem zdB (l:List Int) (hw:WfB l) (he:(z2w l).2=0):z0V (z2w l).1=true:=by
 unfold z2w at he ⊢
 by_cases h0:l= []
 ·rw[if_pos h0] at he; simp at he
 ·rw[if_neg h0] at he ⊢
  have:0<l.length:=by
   cases l with
   | nil=>exact absurd rfl h0
   | cons=>simp
  exact z9C l hw _ _ _ (by omega) (.inr ⟨rfl,this⟩) he
theorem zaY {a b:List Int} {x y:Int} (h:a++ [x]=b++ [y]):a=b∧x=y:=by
 have:=List.append_inj' h rfl
 exact⟨this.1,by simpa using this.2⟩
theorem zcn:∀(r:List Int) (p:Nat) (n:Int) (f:Bool) (N:Int) (q:Nat),(∀ x ∈ r,0≤x∧x<256)→0≤n→n≤2147483647→nxA r p n f=(N,0,q)→
  ∃ w r',r=w++r'∧q=p+w.length∧(f=true→n=0→z19 N.toNat=w)∧(f=false→0<n→∀ L,z19 n.toNat=L++ [n%128]→z19 N.toNat=L++ [n%128+128]++w)
 | [],p,n,f,N,q,_,_,_,h=>by simp[nxA] at h
 | x::r,p,n,f,N,q,hw,h0,hm,h=>by
   have hx:=hw x (List.mem_cons_self ..)
   unfold nxA at h
   by_cases c1:f=true∧x=128
   ·rw[if_pos c1] at h; simp at h
   ·rw[if_neg c1] at h
    by_cases c2:2147483647<128*n+x%128
    ·rw[if_pos c2] at h; simp at h
    ·rw[if_neg c2] at h
     have big:f=false→0<n→∀ L,z19 n.toNat=L++ [n%128]→z19 (128*n+x%128).toNat=(L++ [n%128+128])++ [x%128]:=by
      intro hf hn L hL
      obtain⟨L',k1,k2⟩:=z7o (n:=(128*n+x%128).toNat) (by omega) (by omega)
      have e1:(128*n+x%128).toNat/128=n.toNat:=by omega
      rw[e1,hL] at k1
      obtain⟨rfl,e2⟩:=zaY k1
      rw[k2,e1]
      have e3:((n.toNat%128:Nat):Int)=n%128:=by omega
      have e4:(((128*n+x%128).toNat%128:Nat):Int)=x%128:=by omega
      rw[e3,e4]
     by_cases c3:x<128
     ·rw[if_pos c3] at h
      simp only[Prod.mk.injEq] at h
      obtain⟨rfl,_,rfl⟩:=h
      refine⟨[x],r,rfl,rfl,fun hf hn=>?_,fun hf hn L hL=>?_⟩
      ·subst hn
       have:(128*0+x%128).toNat=x.toNat:=by omega
       rw[this,z4I (by omega)]
       have:((x.toNat:Nat):Int)=x:=by omega
       rw[this]
      ·rw[big hf hn L hL,show x%128=x by omega]
     ·rw[if_neg c3] at h
      obtain⟨w,r',e1,e2,_,e4⟩:=zcn r (p+1) (128*n+x%128) false N q (fun y hy=>hw y (List.mem_cons_of_mem _ hy)) (by omega) (by omega) h
      refine⟨x::w,r',by rw[e1]; rfl,by rw[e2]; simp; omega,fun hf hn=>?_,fun hf hn L hL=>?_⟩
      ·subst hn
       have hx1:x≠128:=fun h=>c1 ⟨hf,h⟩
       have:=e4 rfl (by omega) [] (by rw[z4I (by omega)]; simp; omega)
       rw[this]
       have e5:(128*0+x%128)%128+128=x:=by omega
       rw[e5]
       rfl
      ·have:=e4 rfl (by omega) (L++ [n%128+128]) (by rw[big hf hn L hL]; have:(128*n+x%128)%128=x%128:=by omega
                                                     rw[this])
       rw[this]
       have e5:(128*n+x%128)%128+128=x:=by omega
       rw[e5]
       simp
theorem zgc {N:Int} (h:0≤N):z0Y (z3F N)= [N]:=by
 unfold z3F
 by_cases c:N<80
 ·rw[if_pos c]
  show [40*(N/40)+N%40]= [N]
  rw[show 40*(N/40)+N%40=N by omega]
 ·rw[if_neg c]
  show [40*2+(N -80)]= [N]
  rw[show 40*2+(N -80)=N by omega]
theorem zaZ (l:List Int) (hw:WfB l):∀(k p:Nat) (o ro:List Int),l.length -p<k→(o= []∨2≤o.length)→prA k l p o=(ro,0)→z0v (z0Y ro)=z0v (z0Y o)++l.drop p
 | 0,p,o,ro,h,_,_=>by omega
 | k+1,p,o,ro,h,ho,he=>by
   unfold prA at he
   by_cases hp:p<l.length
   ·rw[if_pos hp] at he
    dsimp only at he
    have hn:=(z5S (l.drop p) p 0 true).2.2 (by rw[z25 l p hp]; simp)
    have hr:=z6x (l.drop p) p 0 true (by omega) (fun x hx=>hw x (List.mem_of_mem_drop hx))
    have hb:=zcn (l.drop p) p 0 true
    generalize nxA (l.drop p) p 0 true=X at*
    obtain⟨N,e,q⟩:=X
    dsimp only at*
    by_cases h1:e=0
    ·subst h1
     rw[if_pos rfl] at he
     obtain⟨w,r',e1,e2,e3,_⟩:=hb N q (fun x hx=>hw x (List.mem_of_mem_drop hx)) (by omega) (by omega) rfl
     have e3:=e3 rfl rfl
     have hdq:l.drop q=r':=by rw[e2,←List.drop_drop,e1,List.drop_left]
     by_cases h2:o.length=32
     ·rw[if_pos h2] at he; simp at he
     ·rw[if_neg h2] at he
      have ih:=zaZ l hw k q _ ro (by omega) (.inr ?_) he
      ·rw[ih,e1,hdq,←List.append_assoc]
       congr 1
       rcases ho with rfl | ho
       ·rw[if_pos (by rfl),List.nil_append,zgc hr.1]
        show [N].flatMap (fun x=>z19 x.toNat)= []++w
        simp[e3]
       ·match o,ho with
        | a::b::t,_=>
          rw[if_neg (by simp)]
          show((40*a+b)::(t++ [N])).flatMap (fun x=>z19 x.toNat)=((40*a+b)::t).flatMap (fun x=>z19 x.toNat)++w
          rw[←List.cons_append,List.flatMap_append]
          simp[e3]
      ·rcases ho with rfl | ho
       ·rw[if_pos (by rfl)]
        unfold z3F
        split<;>simp
       ·rw[if_neg (by omega)]
        simp; omega
    ·rw[if_neg h1] at he
     simp only[Prod.mk.injEq] at he
     exact absurd he.2 h1
   ·rw[if_neg hp] at he
    simp only[Prod.mk.injEq] at he
    obtain⟨rfl,_⟩:=he
    rw[List.drop_eq_nil_of_le (by omega),List.append_nil]
theorem zf7 {l o:List Int} (hw:WfB l) (h:z2w l=(o,0)):z0v (z0Y o)=l:=by
 unfold z2w at h
 by_cases h0:l= []
 ·rw[if_pos h0] at h; simp at h
 ·rw[if_neg h0] at h
  have:=zaZ l hw _ 0 [] o (by omega) (.inl rfl) h
  rw[this]
  rfl
theorem zb0:∀(k N:Nat) (L:List Int),N<k→0<N→N≤16777215→z19 N=L++ [((N%128:Nat):Int)]→∀(r:List Int) (p:Nat),nxA (L++([((N%128:Nat):Int)+128]++r)) p 0 true=nxA r (p+L.length+1) N false
 | 0,_,_,h,_,_,_=>by omega
 | k+1,N,L,h,h0,hm,hL=>by
   intro r p
   by_cases c:N<128
   ·rw[z4I c] at hL
    have:L= []:=by
     have:=congrArg List.length hL
     simp at this
     exact this
    subst this
    have e:N%128=N:=Nat.mod_eq_of_lt c
    rw[e]
    show nxA (((N:Int)+128)::r) p 0 true=_
    rw[nxA,if_neg (by simp; omega),if_neg (by omega),if_neg (by omega)]
    have e2:(128:Int)*0+((N:Int)+128)%128=N:=by omega
    rw[e2]
    rfl
   ·obtain⟨L',k1,k2⟩:=z7o c (by omega)
    rw[k2] at hL
    obtain⟨rfl,_⟩:=zaY hL
    have ih:=zb0 k (N/128) L' (by omega) (by omega) (by omega) k1 ([((N%128:Nat):Int)+128]++r) p
    rw[List.append_assoc]
    rw[ih]
    show nxA ((((N%128:Nat):Int)+128)::r) _ _ false=_
    rw[nxA,if_neg (by simp),if_neg (by omega),if_neg (by omega)]
    have e2:(128:Int)*((N/128:Nat):Int)+(((N%128:Nat):Int)+128)%128=N:=by omega
    rw[e2]
    simp
    rfl
theorem zco {N:Nat} (hm:N≤2147483647) (r:List Int) (p:Nat):nxA (z19 N++r) p 0 true=((N:Int),0,p+(z19 N).length):=by
 by_cases c:N<128
 ·rw[z4I c]
  show nxA ((N:Int)::r) p 0 true=_
  rw[nxA,if_neg (by simp; omega),if_neg (by omega),if_pos (by omega)]
  have e2:(128:Int)*0+(N:Int)%128=N:=by omega
  rw[e2]
  rfl
 ·obtain⟨L',k1,k2⟩:=z7o c (by omega)
  have:=zb0 (N/128+1) (N/128) L' (by omega) (by omega) (by omega) k1 ([((N%128:Nat):Int)]++r) p
  rw[k2,List.append_assoc,List.append_assoc,this]
  show nxA (((N%128:Nat):Int)::r) _ _ false=_
  rw[nxA,if_neg (by simp),if_neg (by omega),if_pos (by omega)]
  have e2:(128:Int)*((N/128:Nat):Int)+((N%128:Nat):Int)%128=N:=by omega
  rw[e2]
  simp
  omega
theorem zb1 (N:Nat):0<(z19 N).length:=by simp[z19]
theorem zcp (l:List Int):∀(ns:List Int) (k p:Nat) (o:List Int),(∀ x ∈ ns,0≤x∧x≤2147483647)→l.drop p=z0v ns→p≤l.length→l.length -p<k→2≤o.length→o.length+ns.length≤32→prA k l p o=(o++ns,0)
 | [],k+1,p,o,hx,hd,hp,hk,ho,hs=>by
   have:l.length≤p:=by simpa[z0v] using hd
   rw[prA,if_neg (by omega),List.append_nil]
 | x::ns,k+1,p,o,hx,hd,hp,hk,ho,hs=>by
   have hd':l.drop p=z19 x.toNat++z0v ns:=hd
   have hlen:=congrArg List.length hd'
   have hpos:=zb1 x.toNat
   have hx0:=hx x (List.mem_cons_self ..)
   rw[List.length_drop,List.length_append] at hlen
   simp only[List.length_cons] at hs
   have hnx:=zco (N:=x.toNat) (by omega) (z0v ns) p
   have e0:((x.toNat:Nat):Int)=x:=by omega
   rw[prA,if_pos (by omega),hd',hnx]
   dsimp only
   rw[if_pos rfl,if_neg (by omega),if_neg (by omega),e0]
   have ih:=zcp l ns k (p+(z19 x.toNat).length) (o++ [x]) (fun y hy=>hx y (List.mem_cons_of_mem _ hy)) (by rw[←List.drop_drop,hd',List.drop_left]) (by omega) (by omega) (by simp; omega) (by simp; omega)
   rw[ih,List.append_assoc]
   rfl
theorem zgd {o:List Int} (h:z0V o=true):z2w (z0v (z0Y o))=(o,0):=by
 obtain⟨a,b,t,rfl,h1,h2,h3,h4,h5,h6,h7⟩:=z3W h
 have hd:z0v (z0Y (a::b::t))=z19 (40*a+b).toNat++z0v t:=rfl
 have hpos:=zb1 (40*a+b).toNat
 rw[hd]
 have hne:z19 (40*a+b).toNat++z0v t≠ []:=by
  intro hh
  have:=congrArg List.length hh
  simp at this
  rw[this.1] at hpos
  simp at hpos
 unfold z2w
 rw[if_neg hne]
 have hnx:=zco (N:=(40*a+b).toNat) (by omega) (z0v t) 0
 have e0:(((40*a+b).toNat:Nat):Int)=40*a+b:=by omega
 have hsp:z3F (40*a+b)= [a,b]:=by
  unfold z3F
  by_cases c:40*a+b<80
  ·rw[if_pos c]
   rw[show(40*a+b)/40=a by omega,show(40*a+b)%40=b by omega]
  ·rw[if_neg c]
   have:a=2:=by omega
   subst this
   rw[show(40:Int)*2+b -80=b by omega]
 rw[prA,if_pos (by simp; omega),List.drop_zero,hnx]
 dsimp only
 rw[if_pos rfl,if_neg (by simp),if_pos (by rfl),e0,hsp,List.nil_append]
 have:=zcp (z19 (40*a+b).toNat++z0v t) t ((z19 (40*a+b).toNat++z0v t).length) (0+(z19 (40*a+b).toNat).length) [a,b] h6 (by rw[Nat.zero_add,List.drop_left]) (by simp) (by simp; omega) (by simp) (by simp; omega)
 rw[this]
 rfl
theorem zge (A C:List Int) {o:List Int} (h:z0V o=true):z3q (A++(z04 (ofT 6) (z0v (z0Y o))++C)) A.length=(o,A.length+(z04 (ofT 6) (z0v (z0Y o))).length,0):=by
 have hl:=z3P h
 unfold z3q
 rw[z4Z A (z0v (z0Y o)) C (ofT 6) (by decide) (by omega)]
 dsimp only
 rw[if_pos rfl,zgd h]
 rfl
theorem zcq:∀(k n:Nat),WfB (z3I k n)
 | 0,n=>fun x hx=>by simp[z3I] at hx
 | k+1,n=>fun x hx=>by
   unfold z3I at hx
   split at hx
   ·cases hx
   ·rcases List.mem_cons.1 hx with rfl | hx
    ·omega
    ·exact zcq k (n/128) x hx
theorem zie (n:Nat):WfB (z19 n):=fun x hx=>by
 unfold z19 at hx
 rw[List.mem_reverse] at hx
 rcases List.mem_cons.1 hx with rfl | hx
 ·omega
 ·exact zcq 5 _ x hx
theorem zgf (l:List Int):WfB (z0v l):=fun x hx=>by
 unfold z0v at hx
 obtain⟨y,_,hy⟩:=List.mem_flatMap.1 hx
 exact zie _ x hy
theorem z3J {a b:List Int} (ha:WfB a) (hb:WfB b):WfB (a++b):=fun x hx=>(List.mem_append.1 hx).elim (ha x) (hb x)
theorem z1B (t:z0g) (X:List Int) (h:z0q t=true) (hw:WfB X):WfB (z04 t X):=by
 have hr:0≤t.1∧t.1≤3∧0≤t.2.1∧t.2.1<2097152:=by simp[z0q] at h; omega
 have hfm:=z62 h
 have hfi:0≤z1h t∧z1h t≤224:=by
  simp only[List.mem_cons,List.not_mem_nil,or_false] at hfm
  omega
 have hD:=z8f 128 (by decide) 5 t.2.1.toNat
 have h2:=z2a 256 5 X.length
 have hL:=zan 256 (by decide) (by decide) 5 X.length
 refine z3J (z3J ?_ ?_) hw
 ·unfold tgL
  split
  ·intro x hx
   rw[List.mem_singleton.1 hx]
   omega
  ·intro x hx
   cases hx with
   | head=>omega
   | tail _ hx=>
     unfold hiL at hx
     rcases List.mem_append.1 hx with hx | hx
     ·obtain⟨y,hy,rfl⟩:=List.mem_map.1 hx
      have:=hD y (List.mem_reverse.1 (List.mem_of_mem_take hy))
      omega
     ·have:=hD x (List.mem_reverse.1 (List.mem_of_mem_drop hx))
      omega
 ·unfold z0I
  split
  ·intro x hx
   rw[List.mem_singleton.1 hx]
   omega
  ·intro x hx
   cases hx with
   | head=>omega
   | tail _ hx=>exact hL x (List.mem_reverse.1 hx)
end Go.Proofs.YtaagjnlkinojcaaGreat

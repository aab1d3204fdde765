/-
  Chapter 17: the next extension at a cursor, kept or not. The conditions: rows of at most a million bytes.
-/
import Derived.Test.YtaagjnlkinojcaaGreatM3
import Derived.Test.YtaagjnlkinojcaaGreatO7
import Derived.Test.YtaagjnlkinojcaaGreatC7
import Derived.Test.YtaagjnlkinojcaaGreatW27
import Derived.Test.YtaagjnlkinojcaaGreatA19
import Derived.Test.YtaagjnlkinojcaaGreatSxQ
import Derived.Test.YtaagjnlkinojcaaGreatTy
import Derived.Test.YtaagjnlkinojcaaGreatC12
namespace Go.Proofs.YtaagjnlkinojcaaGreat
set_option linter.unusedSimpArgs false
set_option linter.unusedVariables false
open Go.Sx
set_option maxRecDepth 10000
theorem zj9 {u:Int} {l:List Int} (h:z14 u l=true):0≤u∧u≤7:=by
 unfold z14 at h
 by_cases h0:l= []
 ·rw[if_pos h0] at h; simp at h; omega
 ·rw[if_neg h0] at h; simp at h; omega
theorem zja (u:Int) (l:List Int) (hl:l.length≤16000000) (hw:WfB l):Ct Tryz.prog 145 [z4e u l] [] (.tup [B8 (if z14 u l=true then u::l else []),lv (.int .i64 (if z14 u l=true then 0 else 1))]) [] []:=by
 have hr:=z4m u l hl hw
 cases hg:z14 u l with
 | false=>
   rw[hg] at hr
   rw[if_neg (by simp),if_neg (by simp)]
   refine z00 Tryz.func145 rfl rfl rfl rfl rfl (fun E hn hb=>?_)
   repeat refine nx ?_
   exact rtU []
 | true=>
   rw[hg] at hr
   have hu:=zj9 hg
   rw[if_pos rfl,if_pos rfl]
   refine z00 Tryz.func145 rfl rfl rfl rfl rfl (fun E hn hb=>?_)
   repeat (first | refine lo1 ?_ | refine nx ?_)
   refine z31 2 ?_
   exact rt1 []
end Go.Proofs.YtaagjnlkinojcaaGreat
namespace Go.Sx
open Go
set_option linter.unusedVariables false
set_option linter.unusedSimpArgs false
section
variable {P:Program} {E:Env} {ops:Array Oper} {Q:Exit→Act→World→Prop} {rest:List Oper} {o:Oper} {σ:St} {α:Type} {f:α→List Leaf}
theorem zh8 {l:List α} {sz i:Nat} {cur:Array Value} {F:Nat→Prop} {w:World} {z0:α} (h:∀ i r k x,(l.map f)[i]? =some r→r[k]? =some x→∃ v,cur[i*sz+k]? =some v∧LfR F w x v) (hs:Nat.beq sz 0=false) (hf:∀ a,(f a).length=sz) (hlt:i<l.length):i*sz+sz≤cur.size:=by
 have hs':sz≠0:=by rintro rfl; simp at hs
 have hfl:=hf l[i]
 obtain⟨v,e1,_⟩:=h i (f l[i]) (sz -1) (f l[i])[sz -1] (by simp[hlt]) (by simp)
 have:=(Array.getElem?_eq_some_iff.1 e1).1
 omega
theorem zh9 {t:TypeId} {y:Operand} {p:List Prop} {j sz i:Nat} {rs:List α} {z0:α} (hop:o.op= .load t y) (ht:z2w P t=true) (hc:P.cellsOf t=sz) (hs:Nat.beq sz 0=false) (hy:ox σ y=(p,.c (.pel j sz i 0))) (hb:σ.hp j= .row (.recs sz (rs.map f))) (hf:∀ a,(f a).length=sz)
  (hp:z03 p) (hlt:i<rs.length):OpY P E o σ (.agg ((f (rs.getD i z0)).map Cell.lf)):=by
 refine z3D fun β F a w hS=>?_
 have hv:=oxR hS y
 rw[hy] at hv
 have hv:=hv hp
 generalize he1:a.eval y=v1 at hv
 dsimp only at hv
 cases hv with | c hv=>cases hv with | pel _ _ _ _ g hgj=>
 have hB:=hS.hp j
 rw[hb] at hB
 have hi:(P.info? t).isSome=true:=z0J (by rw[hc]; rintro rfl; simp at hs)
 obtain⟨hall,⟨h0,_⟩ |⟨g',cur,hg',hrow,hcc⟩⟩:=hB
 ·simp at h0; subst h0; simp at hlt
 ·rw[hgj] at hg'
  obtain rfl:=Option.some.inj hg'
  have hlen:=zh8 (z0:=z0) hcc hs hf hlt
  have hl:=z29 (P:=P) (w:=w) (b:=g) (o:=i*sz) (cs:=(cur.toList.drop (i*sz)).take sz) (n:=sz) (fun k u hu=>by
   rw[hrow.cell]
   rw[List.getElem?_take] at hu
   split at hu
   ·simpa using hu
   ·cases hu) (by simp; omega)
  refine⟨.agg ((cur.toList.drop (i*sz)).take sz).toArray,w,F,?_,.refl w,fun _ h=>h,fun _ h=> .inl h,?_⟩
  ·simp only[execOp,hop,he1]
   refine z2x ?_
   simp only[Instr.loadAt,Instr.sureAddr,loadVar,Sem.run_bind,Sem.run_pure,Result.andThen_ok,z1Q (z5h ht),ht,if_true,Sem.run_ite,z0M hi,hc,Nat.add_zero,hl]
  ·refine .agg _ _ (by simp[hf]; omega) fun k x u hxi hui=>?_
   rw[List.getElem?_map,Option.map_eq_some_iff] at hxi
   obtain⟨z,hz,rfl⟩:=hxi
   have hk:k<sz:=by rw[←hf (rs.getD i z0)]; exact(List.getElem?_eq_some_iff.1 hz).1
   obtain⟨v,e1,e2⟩:=hcc i (f (rs.getD i z0)) k z (by simp[hlt]) hz
   simp only[List.getElem?_toArray,List.getElem?_take,hk,if_true,List.getElem?_drop] at hui
   have:cur[i*sz+k]? =some u:=by simpa using hui
   rw[this] at e1
   cases e1
   exact .lf e2
theorem wgF {nt:Nat} {dd:Option Nat} {i:Nat} {b:Bool} (x:Av) (hn:E.n=nt) (hk:WL P E ops Q rest (σ.put dd (.cnd false x))) (hg:o.guard=some (i,b):=by exact rfl) (hG:z0V ops σ i b=some false:=by exact rfl) (hdf:z0j o.dst some=some dd:=by exact rfl) (hd:z0e nt dd=true:=by exact rfl):WL P E ops Q (o::rest) σ:=by
 simp only[z0t,Option.some.injEq] at hdf
 subst hdf
 exact z1b (z3X hg hG fun h=>by cases h) (by rw[hn]; exact hd) hk
end
end Go.Sx
namespace Go.Proofs.YtaagjnlkinojcaaGreat
set_option linter.unusedSimpArgs false
set_option linter.unusedVariables false
open Go.Sx
set_option maxRecDepth 10000
abbrev ExT:Type:=List Int×Bool×List Int
theorem z8X {α:Type} [Inhabited α] (p:α→Bool) (l:List α) (i:Nat) (h:i<l.length):(l.take (i+1)).filter p=(l.take i).filter p++(if p (l.getD i default)=true then [l.getD i default] else []):=by
 rw[List.take_add_one,List.filter_append,List.getD_eq_getElem?_getD,List.getElem?_eq_getElem h]
 simp only[Option.toList_some,Option.getD_some,List.filter_cons,List.filter_nil]
def zfL (l:List ExT) (o:List Int):List ExT:=l.filter fun e=>!decide (e.1=o)
structure DelI (l:List ExT) (o:List Int) (cur:List ExT) (i j:Nat):Prop where
 le:i≤j
 jl:j≤l.length
 len:cur.length=l.length
 front:cur.take i=zfL (l.take j) o
 back:cur.drop j=l.drop j
theorem DelI.get {l cur:List ExT} {o:List Int} {i j:Nat} (h:DelI l o cur i j) (hj:j<l.length):cur.getD j default=l.getD j default:=by
 have h1:=congrArg (fun x=>x.getD 0 default) h.back
 simpa[List.getD_eq_getElem?_getD,List.getElem?_drop] using h1
theorem DelI.skip {l cur:List ExT} {o:List Int} {i j:Nat} (h:DelI l o cur i j) (hj:j<l.length) (he:(l.getD j default).1=o):DelI l o cur i (j+1):=by
 refine⟨by have:=h.le; omega,by omega,h.len,?_,?_⟩
 ·rw[h.front]
  have:=z8X (fun e:ExT=>!decide (e.1=o)) l j hj
  rw[if_neg (by rw[decide_eq_true he]; simp),List.append_nil] at this
  exact this.symm
 ·have:=congrArg (List.drop 1) h.back
  rwa[List.drop_drop,List.drop_drop] at this
theorem DelI.keep {l cur:List ExT} {o:List Int} {i j:Nat} (h:DelI l o cur i j) (hj:j<l.length) (he:¬ (l.getD j default).1=o):DelI l o (cur.set i (l.getD j default)) (i+1) (j+1):=by
 have hle:=h.le
 have hlen:=h.len
 refine⟨by omega,by omega,by simpa using hlen,?_,?_⟩
 ·have:=z8X (fun e:ExT=>!decide (e.1=o)) l j hj
  rw[if_pos (by rw[decide_eq_false he]; rfl)] at this
  unfold zfL
  rw[this]
  have h2:=h.front
  unfold zfL at h2
  rw[←h2,List.take_add_one,List.getElem?_set_self (by omega),List.take_set_of_le (Nat.le_refl i)]
  rfl
 ·rw[List.drop_set_of_lt (by omega)]
  have:=congrArg (List.drop 1) h.back
  rwa[List.drop_drop,List.drop_drop] at this
def isH (l:List Int) (p:Nat) (t:z0h):Bool:=decide ((z0d l p).2.2=0)&&decide ((z0d l p).1.1=t)
end Go.Proofs.YtaagjnlkinojcaaGreat
namespace Go.Sx
open Go
set_option linter.unusedVariables false
set_option linter.unusedSimpArgs false
theorem z9d {α:Type} {f:α→Prop}:∀ {l:List α},(∀ p,p ∈ l→f p)→z03 (l.map f)
 | [],_=>trivial
 | [p],h=>h p (List.mem_singleton.2 rfl)
 | p::q::l,h=>⟨h p (List.mem_cons_self ..),z9d (l:=q::l) fun r hr=>h r (List.mem_cons_of_mem _ hr)⟩
theorem z85 {α:Type}:∀(l:List α) (n:Nat) (p:Nat×α),p ∈ z0b n l→∃ i:Nat,p.1=n+i∧l[i]? =some p.2
 | [],n,p,h=>by cases h
 | y::l,n,p,h=>by
   rcases List.mem_cons.1 h with rfl | h
   ·exact⟨0,rfl,rfl⟩
   ·obtain⟨i,h1,h2⟩:=z85 l (n+1) p h
    exact⟨i+1,by omega,h2⟩
theorem z8E:∀ {l:List (Nat×Blk)} {k:Nat},k ∉ l.map (·.1)→z0N l k=none
 | [],k,_=>rfl
 |(j,b)::l,k,h=>by
  simp only[List.map_cons,List.mem_cons,not_or] at h
  simp only[z0N,show Nat.beq k j=false from Bool.eq_false_iff.2 fun e=>h.1 (Nat.eq_of_beq_eq_true e)]
  exact z8E h.2
theorem z9e:∀ {l:List (Nat×Blk)} {k:Nat},z0N l k=none→k ∉ l.map (·.1)
 | [],k,_=>by simp
 |(j,b)::l,k,h=>by
  simp only[z0N] at h
  cases hb:Nat.beq k j with
  | true=>rw[hb] at h; cases h
  | false=>
    rw[hb] at h
    simp only[List.map_cons,List.mem_cons,not_or]
    exact⟨fun e=>(by rw[e,Nat.beq_refl] at hb; cases hb),z9e h⟩
theorem z9f:∀(l:List (Nat×Blk)) (σ:St),(l.map (·.1)).Nodup→σ.sets l=⟨σ.tm,z1a σ.hp l⟩
 | [],σ,_=>rfl
 |(j,b)::l,σ,h=>by
  simp only[List.map_cons,List.nodup_cons] at h
  show(σ.seth j b).sets l=_
  rw[z9f l _ h.2]
  refine congrArg (St.mk σ.tm) ?_
  funext i
  rw[z5C,z5C]
  simp only[z0N]
  cases hb:Nat.beq i j with
  | true=>
    rw[Nat.eq_of_beq_eq_true hb,z8E h.1]
    simp[St.seth]
  | false=>
    have:i≠j:=fun e=>by rw[e,Nat.beq_refl] at hb; cases hb
    dsimp only
    cases z0N l i<;>simp[St.seth,this]
theorem z9g:∀(l m:List (Nat×Blk)) (σ:St),(σ.sets l).sets m=σ.sets (l++m)
 | [],m,σ=>rfl
 |(j,b)::l,m,σ=>z9g l m (σ.seth j b)
section
variable {P:Program} {E:Env} {ops:Array Oper} {o:Oper} {σ:St}
theorem zke (d:Option Nat):∀ n,(z07 d n).length=n:=by intro n; induction n with
 | zero=>rfl
 | succ n ih=>simp[z07,ih]
theorem zrG {ns b own:List Nat} {bs:List (List Nat×List Nat)} {l:List Oper} {K:St→Prop} {c:Call} {fo:Operand} {f:FuncId} {first cap:List Cell} {pf:List Prop} {xs:List Av} {bor bor':List Blk} {news:List Blk} {res:Av} {nt dn:Nat} (ks:List Nat) (hn:E.n=nt) (hF:Ct P f xs bor res bor' news) (hop:o.op= .call c) (hg:o.guard=none) (hd:o.dst=some dn) (hE0:z0e nt o.dst=true)
  (hcv:c.callee= .value fo) (hfo:ox ⟨σ.tm,fgt b σ.hp⟩ fo=(pf,.c (.fn (.func f) first cap))) (hC:CallOk ⟨σ.tm,fgt b σ.hp⟩ (first.map Av.c++(oxs ⟨σ.tm,fgt b σ.hp⟩ c.args.toList).2++cap.map Av.c) xs bor res bor' news ks (some dn))
  (hp:z03 (pf++(oxs ⟨σ.tm,fgt b σ.hp⟩ c.args.toList).1)) (hlen:ks.length=bor'.length) (hns:news.length=0∨(news.length=1∧z0c (nk (some dn) 0) ns=true)) (hown:(ks++z07 (some dn) news.length).all (fun k=>z0c k own)=true)
  (hk:z0a P E ops ns bs l ((z0u σ ks (some dn) bor' news).put (some dn) (res.ren (z0B ks (some dn) news.length))) K):z0a P E ops ns ((b,own)::bs) (o::l) σ K:=by
 have hnd:(ks++z07 (some dn) news.length).Nodup:=by
  have:=hC.cok
  simp only[Bool.and_eq_true] at this
  simpa using this.2
 obtain⟨u,hu⟩:∃ u,z4v ks (bor'.map (Blk.ren (z0B ks (some dn) news.length)))++z4v (z07 (some dn) news.length) (news.map (Blk.ren (z0B ks (some dn) news.length)))=u:=⟨_,rfl⟩
 have hfst:u.map (·.1)=ks++z07 (some dn) news.length:=by
  rw[←hu,List.map_append,z30 _ _ (by simpa using hlen),z30 _ _ (by simp[zke])]
 have eaf:∀ τ:St,z0u τ ks (some dn) bor' news=⟨τ.tm,z1a τ.hp u⟩:=fun τ=>by
  unfold z0u
  rw[z9g,hu]
  exact z9f u τ (by rw[hfst]; exact hnd)
 rw[eaf] at hk
 refine z3r (x:=res.ren (z0B ks (some dn) news.length)) (u:=u) ?_ (fun j hj=>?_) (by rw[hd]; exact hk)
 ·intro τ hl β F a w hS hnn KK Q hK
  rw[show Region.wanted o (yielded ops a.tmps)=true by simp[Region.wanted,hg],if_pos rfl]
  have hcut:SRb E β F ⟨τ.tm,fgt b σ.hp⟩ a w:=hS.cut hl
  have x1:ox ⟨τ.tm,fgt b σ.hp⟩ fo=ox ⟨σ.tm,fgt b σ.hp⟩ fo:=hl.ox fo (by rw[hop]; simp[Op.operands,Call.operands,hcv])
  have x2:oxs ⟨τ.tm,fgt b σ.hp⟩ c.args.toList=oxs ⟨σ.tm,fgt b σ.hp⟩ c.args.toList:=z4g (o:=o) (τ:=⟨τ.tm,fgt b σ.hp⟩) (σ:=⟨σ.tm,fgt b σ.hp⟩) (fun y hy=>hl.ox y hy) _ fun y hy=>by
   rw[hop]; simp only[Op.operands,Call.operands]; simp at hy ⊢; first | exact .inr hy | exact .inl hy | simp[hy]
  have hfv:=oxR hcut fo
  rw[x1,hfo] at hfv
  have hfv:=hfv hp.left
  generalize hv:a.eval fo=fv at hfv
  cases hfv with | c hfv=>cases hfv with | fn _ _ _ f1 c1 n1 n2 r1 r2=>
  obtain⟨l1,l2⟩:=z59 hcut c.args.toList (by rw[x2]; exact hp.right)
  rw[x2] at l1 l2
  have hrun:(execOp a.eval o).run P w= .ok (.enter f (f1++c.args.map a.eval++c1)) w:=by
   simp only[execOp,hop,resolve,hcv,hv,Deferred.ofValue,Sem.run_bind,Sem.run_pure,Result.andThen_ok,invoke]
   exact z22 hF.2.1
  unfold Oper.wp
  rw[hrun,Oper.upon_enter]
  have hbor:∀ i blk,bor[i]? =some blk→τ.hp (ks.getD i 0)=blk.ren (z0B ks (some dn) news.length):=fun i blk hi=>by
   have h1:=z1U hC.cbor _ (z2r bor 0 i blk hi)
   have h2:=z1U hC.cgone _ (z2r bor 0 i blk hi)
   have h1:fgt b σ.hp (ks.getD i 0)=blk.ren (z0B ks (some dn) news.length):=by simpa using h1
   have h2:blk≠ .gone:=by simpa using h2
   rw[z9N] at h1
   cases hb:z0c (ks.getD i 0) b with
   | true=>
     rw[hb] at h1
     exact absurd h1.symm (Blk.ren_ne h2)
   | false=>
     rw[hb] at h1
     rw[hl.hp _ hb]
     exact h1
  have hC2:CallOk τ (first.map Av.c++(oxs ⟨σ.tm,fgt b σ.hp⟩ c.args.toList).2++cap.map Av.c) xs bor res bor' news ks (some dn):=⟨hC.cargs,z9d fun p hp=>by
   obtain⟨i,blk⟩:=p
   obtain⟨k,hk1,hk2⟩:=z85 bor 0 _ hp
   dsimp only at hk1 ⊢
   have:=hbor k blk hk2
   rw[hk1,Nat.zero_add]
   exact this,hC.cgone,hC.cok⟩
  have hcore:=z6W (σ:=τ) (bs:=ks) (d:=some dn) (vs:=(f1++c.args.map a.eval++c1).toList) hF hS (fun i=>by
   rcases hns with h0 |⟨h0,h1⟩
   ·exact .inr (by omega)
   ·rcases Nat.lt_or_ge i 1 with h | h
    ·obtain rfl:i=0:=by omega
     exact .inl (hnn dn hd h1)
    ·exact .inr (by omega)) hC2 (by simp[n1,n2,l1]) (fun i y v hy hv=>by
   simp only[Array.toList_append,List.append_assoc] at hv
   rw[List.append_assoc] at hy
   rcases Nat.lt_or_ge i first.length with h | h
   ·rw[List.getElem?_append_left (by simpa using h)] at hy
    rw[List.getElem?_append_left (by simp[n1]; exact h)] at hv
    rw[List.getElem?_map,Option.map_eq_some_iff] at hy
    obtain⟨x,hx,rfl⟩:=hy
    exact .c (r1 i x v hx (by simpa using hv))
   ·rw[List.getElem?_append_right (by simpa using h)] at hy
    rw[List.getElem?_append_right (by simp[n1]; exact h)] at hv
    simp only[List.length_map,Array.length_toList,n1] at hy hv
    rcases Nat.lt_or_ge (i -first.length) c.args.toList.length with h' | h'
    ·rw[List.getElem?_append_left (by rw[l1]; exact h')] at hy
     rw[List.getElem?_append_left (by simpa using h')] at hv
     exact l2 _ y v hy (by simpa using hv)
    ·rw[List.getElem?_append_right (by rw[l1]; exact h')] at hy
     rw[List.getElem?_append_right (by simpa using h')] at hv
     rw[List.getElem?_map,Option.map_eq_some_iff] at hy
     obtain⟨x,hx,rfl⟩:=hy
     refine .c (r2 _ x v hx ?_)
     simp only[l1] at hx
     simpa[l1] using hv)
  rw[Array.toArray_toList] at hcore
  refine hcore.mono fun e w' hq=>?_
  obtain⟨v,rfl,β',F',hv',hβ',hS'⟩:=hq
  rw[eaf] at hS'
  refine hK _ _ β' F' ?_ fun k hk=>hβ' k fun hm=>z9e hk (by rw[hfst]; exact List.mem_append_right _ hm)
  rw[hd]
  exact hS'.put hv' (z0x (by rw[hn,←hd]; exact hE0))
 ·have hm:j ∈ ks++z07 (some dn) news.length:=by
   rw[←hfst]
   exact Classical.not_not.1 fun h=>hj (z8E h)
  exact List.all_eq_true.1 hown j hm
theorem z7h {ns b own:List Nat} {bs:List (List Nat×List Nat)} {l:List Oper} {K:St→Prop} {c:Call} {fo:Operand} {f:FuncId} {first cap:List Cell} {pf:List Prop} {xs:List Av} {bor bor':List Blk} {news:List Blk} {res:Av} {nt dn:Nat} (ks:List Nat) (hn:E.n=nt) (hF:Ct P f xs bor res bor' news)
  (hk:z0a P E ops ns bs l ((z0u σ ks (some dn) bor' news).put (some dn) (res.ren (z0B ks (some dn) news.length))) K) (hop:o.op= .call c:=by exact rfl) (hg:o.guard=none:=by exact rfl) (hd:o.dst=some dn:=by exact rfl) (hE0:z0e nt o.dst=true:=by exact rfl)
  (hcv:c.callee= .value fo:=by exact rfl) (hfo:ox ⟨σ.tm,fgt b σ.hp⟩ fo=(pf,.c (.fn (.func f) first cap)):=by exact rfl)
  (h1:first.map Av.c++(oxs ⟨σ.tm,fgt b σ.hp⟩ c.args.toList).2++cap.map Av.c=xs.map (Av.ren (z0B ks (some dn) news.length)):=by exact rfl)
  (h2:z03 ((z0b 0 bor).map fun p=>(St.mk σ.tm (fgt b σ.hp)).hp (ks.getD p.1 0)=p.2.ren (z0B ks (some dn) news.length)):=by first | trivial | exact rfl | exact⟨rfl,rfl⟩ | exact⟨rfl,rfl,rfl⟩)
  (h3:z03 ((z0b 0 bor).map fun p=>p.2≠ .gone):=by first | trivial |(simp[z0b]; done) | fail)
  (h4:(xs.all (Av.ok ks.length)&&bor.all (Blk.ok ks.length)&&res.ok (ks.length+news.length)&&bor'.all (Blk.ok (ks.length+news.length))&&news.all (Blk.ok (ks.length+news.length))&&Nat.beq ks.length bor.length&&decide (ks++z07 (some dn) news.length).Nodup)=true:=by exact rfl)
  (hp:z03 (pf++(oxs ⟨σ.tm,fgt b σ.hp⟩ c.args.toList).1):=by exact vcs) (hlen:ks.length=bor'.length:=by exact rfl) (hns:news.length=0∨(news.length=1∧z0c (nk (some dn) 0) ns=true):=by first | exact .inl rfl | exact .inr ⟨rfl,rfl⟩) (hown:(ks++z07 (some dn) news.length).all (fun k=>z0c k own)=true:=by exact rfl):z0a P E ops ns ((b,own)::bs) (o::l) σ K:=
 zrG ks hn hF hop hg hd hE0 hcv hfo ⟨h1,h2,h3,h4⟩ hp hlen hns hown hk
theorem z6x {Q:Exit→Act→World→Prop} {id:Nat} {l:List Oper} {bs:List (List Nat×List Nat)} (ns:List Nat) (ws:List (Nat×Nat)) (h:z0a P E l.toArray ns bs l (σ.kills ns) (fun τ=>WL P E l.toArray Q [] τ)) (hm:P.follows .mixedOrders=true:=by kernel_rfl)
 (hbs:z45 (z6e l.toArray ws 0 l) some=some bs:=by exact rfl) (hB:z6f l.toArray l ns ws=true:=by kernel_rfl) (h64:ns.all (Nat.ble 64)=true:=by exact rfl):W P E (.region id l.toArray true) Q σ:=z6F ns ws hm hB hbs h64 h
theorem dwF {ns b own:List Nat} {bs:List (List Nat×List Nat)} {l:List Oper} {K:St→Prop} {nt:Nat} {dd:Option Nat} {i:Nat} {g G:Bool} (x:Av) (hn:E.n=nt) (hk:z0a P E ops ns bs l (σ.put dd (.cnd false x)) K) (hg:o.guard=some (i,g):=by exact rfl) (hG:z0V ops ⟨σ.tm,fgt b σ.hp⟩ i g=some G:=by exact rfl) (hf:G=false:=by first | rfl |(simp; done) |(simp; omega)) (hdf:z0j o.dst some=some dd:=by exact rfl) (hd:z0e nt dd=true:=by exact rfl):z0a P E ops ns ((b,own)::bs) (o::l) σ K:=by
 subst hf
 exact z20 hdf (by rw[hn]; exact hd) (z3E hg hG fun hh=>by cases hh) hk
end
end Go.Sx
namespace Go.Proofs.YtaagjnlkinojcaaGreat
set_option linter.unusedSimpArgs false
set_option linter.unusedVariables false
open Go.Sx
set_option maxRecDepth 10000
abbrev e0:ExT:=([],false,[])
end Go.Proofs.YtaagjnlkinojcaaGreat

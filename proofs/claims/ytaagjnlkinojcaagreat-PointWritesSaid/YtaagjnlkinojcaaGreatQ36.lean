/-
  Chapter 16's law PointReads, walked: it returns true. The conditions: rows that a machine can hold.
-/
import Derived.Test.YtaagjnlkinojcaaGreatK29
import Derived.Test.YtaagjnlkinojcaaGreatD15
import Derived.Test.YtaagjnlkinojcaaGreatK8
import Derived.Test.YtaagjnlkinojcaaGreatQ22
import Derived.Test.YtaagjnlkinojcaaGreatK17
import Derived.Test.YtaagjnlkinojcaaGreatJ4
namespace Go.Proofs.YtaagjnlkinojcaaGreat
set_option linter.unusedSimpArgs false
set_option linter.unusedVariables false
open Go Go.Sx
set_option maxRecDepth 10000
abbrev zaC (l:List PtJ):Av:= .c (.lf (.recs 5 (l.map ziq)))
abbrev pjD:PtJ:=((false,[],[]),[],[])
def mS (l:List PtJ) (i:Nat):List PtT:=(l.take i).map z3M
def wS (m:List PtT):List Int:=(m.filter z0A).flatMap z0o
theorem zlb {l:List PtJ} {i:Nat} (h:i<l.length):mS l (i+1)=mS l i++ [z3M (l.getD i pjD)]:=by
 unfold mS
 rw[z1Y (d:=pjD) h,List.map_append]
 rfl
theorem zlc (m:List PtT) (z:PtT):wS (m++ [z])=wS m++(if z0A z=true then z0o z else []):=by
 unfold wS
 rw[List.filter_append,List.flatMap_append]
 cases h:z0A z with
 | true=>simp[h]
 | false=>simp[h]
theorem zpR {m:List PtT} (h:m.all z0A=true):wS m=m.flatMap z0o:=by
 unfold wS
 rw[List.filter_eq_self.2 (List.all_eq_true.1 h)]
theorem zpS {l:List PtJ} (h:∀ p ∈ l,PtI p) (i:Nat):∀ z ∈ mS l i,PtS z:=fun z hz=>by
 obtain⟨p,hp,rfl⟩:=List.mem_map.1 hz
 exact zgx (h p (List.mem_of_mem_take hp))
theorem zpT {m:List PtT} (h:∀ z ∈ m,PtS z) (hm:m.length≤8):(wS m).length≤11713600:=by
 have h1:=z8c z0o 1464200 (m.filter z0A) fun z hz=>by
  obtain⟨a,b⟩:=List.mem_filter.1 hz
  exact((h z a).h b).2.1
 have h2:=List.length_filter_le z0A m
 have h3:(m.filter z0A).length*1464200≤8*1464200:=Nat.mul_le_mul_right _ (by omega)
 unfold wS
 omega
set_option maxHeartbeats 16000000 in
theorem zfS (l:List PtJ) (hl:l.length≤big) (h:∀ p ∈ l,PtI p):Ct Tryz.prog 7 [zaC l] [] (lv (.bool true)) [] []:=by
 have hkn:=z9M
 have hml:(l.map ziq).length=l.length:=List.length_map ..
 refine z00 Tryz.func7 rfl rfl rfl rfl rfl (fun E hn hb=>?_)
 repeat refine nx ?_
 refine z10 3 900 3 (.recs 3 []) rfl rfl (.inr (.inr ⟨_,rfl⟩)) ?_
 refine z10 4 901 1 (.ints .u8 []) rfl rfl (.inr (.inl ⟨_,rfl⟩)) ?_
 refine z09 (St.le_of (l:= [(0,zaC l),(2,lv (.bool false)),(3,.c (.own 900 3 0 (ptR (mS l 0)).length)),(4,.c (.own 901 1 0 (wS (mS l 0)).length)),(5,lv (.bool ((mS l 0).all z0A))),(6,lv (.int .i64 ((0:Nat):Int)))]) (h:= [(900,.row (.recs 3 (ptR (mS l 0)))),(901,rB (wS (mS l 0)))]) (by refine⟨?_,?_⟩<;>(repeat' (first | exact trivial | exact rfl | refine⟨?_,?_⟩))<;>first | exact rfl |(simp; done) | skip)) ?_
 refine z0k (ι:= {i:Nat//i≤l.length∧i≤8}) (fun i=>St.of [(0,zaC l),(2,lv (.bool false)),(3,.c (.own 900 3 0 (ptR (mS l i.1)).length)),(4,.c (.own 901 1 0 (wS (mS l i.1)).length)),(5,lv (.bool ((mS l i.1).all z0A))),(6,lv (.int .i64 (i.1:Int)))] [(900,.row (.recs 3 (ptR (mS l i.1)))),(901,rB (wS (mS l i.1)))]) (fun i=>8 -i.1) (fun i=>?_) ⟨0,Nat.zero_le _,Nat.zero_le _⟩
 obtain⟨i,hi,hi8⟩:=i
 dsimp only
 have hmS:=zpS h i
 have hmn:(mS l i).length=i:=by unfold mS; rw[List.length_map,List.length_take]; omega
 have hmt:(ptR (mS l i)).length=i:=by rw[List.length_map,hmn]
 have hwl:=zpT hmS (by omega)
 by_cases hc:i<l.length∧i<8
 ·obtain⟨hc1,hc2⟩:=hc
  have hq:l.getD (i:Int).toNat default=l.getD i pjD:=rfl
  have t1:=zfk _ (h _ (z1m (d:=pjD) hc1))
  have hS':=zpS h (i+1)
  have hsn:=zlb hc1
  have hzS:=zgx (h _ (z1m (d:=pjD) hc1))
  generalize l.getD i pjD=x at*
  generalize z3M x=z at*
  have h0m:(mS l (i+1)).getD 0 z4T ∈ mS l (i+1):=z1m (d:=z4T) (by rw[hsn,List.length_append,List.length_singleton]; omega)
  have hl1:0<(mS l (i+1)).length:=by rw[hsn,List.length_append,List.length_singleton]; omega
  have h0S:=hS' _ h0m
  have hws:=zlc (mS l i) z
  have has:(mS l (i+1)).all z0A=((mS l i).all z0A&&z0A z):=by rw[hsn,List.all_append,List.all_cons,List.all_nil,Bool.and_true]
  rw[←hsn] at hws
  generalize h0:(mS l (i+1)).getD 0 z4T=z0 at*
  have t2:=zeL z hzS.v.b
  have t3:=fun _:Unit=>z5j z hzS.v
  have t4:=z6j z hzS.v.b
  have t5:=z7l z hzS.v.b
  have t7:=fun _:Unit=>zeL z0 h0S.v.b
  have hzl:z0A z=true→(z0o z).length≤12000000:=fun k=>Nat.le_trans (hzS.h k).2.1 (by decide)
  have hz0l:z0A z0=true→(z0o z0).length≤12000000:=fun k=>Nat.le_trans (h0S.h k).2.1 (by decide)
  have t6:=zaS z z0 hzS.v h0S.v hzl hz0l
  have t8:=zgy z z0 hzS.v h0S.v hzl hz0l
  have hrow:ptR (mS l i)++ [ptL z]=ptR (mS l (i+1)):=by rw[hsn]; show _=List.map ptL (mS l i++ [z]); rw[List.map_append]; rfl
  have hrl:(ptR (mS l (i+1))).length=i+1:=by rw[List.length_map,hsn,List.length_append,List.length_singleton,hmn]
  generalize (z0A z&&z0A z0&&decide (z0o z=z0o z0))=D at*
  by_cases hk:z0A z=true
  ·rw[hk] at t4 t5 has
   rw[if_pos hk] at hws
   rw[if_pos hk,if_pos hk] at t3
   rw[Bool.and_true] at has
   obtain⟨p1,p2,p3⟩:=hzS.h hk
   have t9:=z6Z z hzS.v hk
   have t10:=z2l (z0o z) (by omega)
   have t11:=z62 (z0o z) 0 (Nat.zero_le _) (by omega) p3
   have hf:=zdx [] [] hk p1
   rw[List.nil_append,List.append_nil,List.length_nil] at hf
   rw[hf] at t11
   dsimp only at t11
   have t12:=z4k (z0o z) (z0o z) (by omega) (by omega)
   rw[decide_eq_true rfl] at t12
   have t13:=zhJ z hzS.v.b
   clear hf hzl hz0l h0S hzS hS' hmS p1
   generalize z0o z=W at*
   obtain⟨o,r,g⟩:=z
   obtain⟨o0,r0,g0⟩:=z0
   rcases o with _ |⟨g',s'⟩<;>rcases o0 with _ |⟨g2',s2'⟩
   all_goals
    repeat (first | refine nx ?_ | rw[hq])
    refine z4x (fun a w h=>h.weaken (St.le_of (l:= [(0,zaC l),(2,lv (.bool false)),(3,.c (.own 900 3 0 (ptR (mS l (i+1))).length)),(4,.c (.own 901 1 0 (wS (mS l i)).length)),(5,lv (.bool ((mS l i).all z0A))),(6,lv (.int .i64 (i:Int))),(7,.c (.ptr 71 0)),(8,.c (.ptr 72 0)),(40,_)]) (h:= [(900,.row (.recs 3 (ptR (mS l (i+1))))),(901,rB (wS (mS l i))),(71,.cells _),(72,.cells _)]) ⟨⟨rfl,rfl,?_,rfl,rfl,rfl,rfl,rfl,rfl⟩,⟨?_,rfl,rfl,rfl⟩⟩)) ?_
    ·rw[←hrow]; rfl
    ·rw[←hrow]; rfl
    have c:=t3 ()
    repeat (first | refine nx ?_ | refine z7P (hF:=t7 ()) ?_ | refine zp0 (f:=ptL) (rs:=mS l (i+1)) (z0:=default) (xs:= [.lf _,.lf (.ints .i64 r0),.lf (.recs 3 (gnR g0))]) hn ?_ (hx:=by show z2C (some ((ptL ((mS l (i+1)).getD 0 z4T)).map Cell.lf)) some=_; rw[h0]; rfl))
    refine z08 ⟨i+1,by omega,by omega⟩ (by dsimp only; omega) (St.le_of ⟨⟨rfl,rfl,rfl,?_,?_,rfl⟩,⟨rfl,?_⟩⟩)
    ·dsimp only; rw[hws]; rfl
    ·dsimp only; rw[has]; rfl
    ·dsimp only; rw[hws]; rfl
  ·rw[Bool.not_eq_true] at hk
   rw[hk] at t3 t4 t5 hws has
   rw[if_neg (by simp),List.append_nil] at hws
   rw[Bool.and_false] at has
   simp only[Bool.false_eq_true,if_false] at t3
   clear hzl hz0l h0S hzS hS' hmS
   obtain⟨o,r,g⟩:=z
   obtain⟨o0,r0,g0⟩:=z0
   rcases o with _ |⟨g',s'⟩<;>rcases o0 with _ |⟨g2',s2'⟩
   all_goals
    repeat (first | refine nx ?_ | rw[hq])
    refine z4x (fun a w h=>h.weaken (St.le_of (l:= [(0,zaC l),(2,lv (.bool false)),(3,.c (.own 900 3 0 (ptR (mS l (i+1))).length)),(4,.c (.own 901 1 0 (wS (mS l i)).length)),(5,lv (.bool ((mS l i).all z0A))),(6,lv (.int .i64 (i:Int))),(7,.c (.ptr 71 0)),(8,.c (.ptr 72 0)),(40,_)]) (h:= [(900,.row (.recs 3 (ptR (mS l (i+1))))),(901,rB (wS (mS l i))),(71,.cells _),(72,.cells _)]) ⟨⟨rfl,rfl,?_,rfl,rfl,rfl,rfl,rfl,rfl⟩,⟨?_,rfl,rfl,rfl⟩⟩)) ?_
    ·rw[←hrow]; rfl
    ·rw[←hrow]; rfl
    have c:=t3 ()
    repeat (first | refine nx ?_ | refine z7P (hF:=t7 ()) ?_ | refine zp0 (f:=ptL) (rs:=mS l (i+1)) (z0:=default) (xs:= [.lf _,.lf (.ints .i64 r0),.lf (.recs 3 (gnR g0))]) hn ?_ (hx:=by show z2C (some ((ptL ((mS l (i+1)).getD 0 z4T)).map Cell.lf)) some=_; rw[h0]; rfl))
    refine z08 ⟨i+1,by omega,by omega⟩ (by dsimp only; omega) (St.le_of ⟨⟨rfl,rfl,rfl,?_,?_,rfl⟩,⟨rfl,?_⟩⟩)
    ·dsimp only; rw[hws]; rfl
    ·dsimp only; rw[has]; rfl
    ·dsimp only; rw[hws]; rfl
 ·generalize mS l i=m at*
  have hml2:(ptR m).length=m.length:=List.length_map ..
  have hwA:=fun ha:m.all z0A=true=>zpR ha
  have wps:=z9D m (fun p hp=>(hmS p hp).v) (by omega) (fun ha=>by rw[←hwA ha]; omega)
  refine zpB 3 ?_
  refine zpB 4 ?_
  unfold z8r at wps
  by_cases hm0:m= []
  ·subst hm0
   rw[if_neg (by simp),if_neg (by simp)] at wps
   repeat refine nx ?_
   refine rt2 [] (congrArg (fun x=>lv (.bool x)) ?_) trivial; (simp[z2u,Cell.kill,Cell.kill1])
  ·have hpos:0<m.length:=List.length_pos_iff.2 hm0
   rw[decide_eq_true hpos,Bool.true_and] at wps
   by_cases ha:m.all z0A=true
   ·rw[if_pos ha,if_pos ha] at wps
    rw[ha]
    have hla:=List.all_eq_true.1 ha
    have hwe:=hwA ha
    have hlw:(m.flatMap z0o).length≤11713600:=by rw[←hwe]; exact hwl
    have q:=z0s (ofT 16) (m.flatMap z0o)
    have hpf:=zhw hpos (by omega) (fun y hy=>⟨hla y hy,((hmS y hy).h (hla y hy)).1⟩) (by omega)
    have hwf:WfB (z2j m):=z1I _ _ (by decide) (z8J z0o m fun y hy=>((hmS y hy).h (hla y hy)).2.2)
    have rps:=z7D (z2j m) 0 (Nat.zero_le _) (by unfold z2j; omega) hwf
    rw[hpf] at rps
    dsimp only at rps
    have t1:=z2l (z2j m) (by unfold z2j; omega)
    have t2:=z4k (z2j m) (z2j m) (by unfold z2j; omega) (by unfold z2j; omega)
    rw[decide_eq_true rfl] at t2
    have t3:=z4n 16
    have t4:=z1R (ofT 16) (wS m) (by decide) (by omega)
    rw[show z05 (ofT 16) (wS m)=z2j m by rw[hwe]; rfl] at t4
    generalize z2j m=C at*
    generalize wS m=V at*
    repeat refine nx ?_
    refine rt2 [] (congrArg (fun x=>lv (.bool x)) ?_) trivial; (simp[z2u,Cell.kill,Cell.kill1])
   ·rw[if_neg ha,if_neg ha] at wps
    rw[Bool.not_eq_true] at ha
    rw[ha]
    repeat refine nx ?_
    refine rt2 [] (congrArg (fun x=>lv (.bool x)) ?_) trivial; (simp[z2u,Cell.kill,Cell.kill1])
end Go.Proofs.YtaagjnlkinojcaaGreat
namespace Go.Sx
open Go
open Go.ChangeShapes Go.WideShapes Go.ChangeAt Go.RowKit Go.Joins Go.Deep
set_option linter.unusedVariables false
section
variable {H:Type} {enc:TypeId×Value→H} {P:Program} {w:World} {base:Nat} {spare:Nat→Bool} {held:Bool} {fuel:Nat}
def z6L (w:World) (cs:List Value) (ls:List Leaf):Prop:=cs.length=ls.length∧∀(j:Nat) (z:Leaf),ls[j]? =some z→∃ u,cs[j]? =some u∧LfR (Was w) w z u
theorem zbx {α:Type} {t e:TypeId} {sz:Nat} {f:α→List Leaf} {Φ:α→Prop} {v:Value} {x:DataW H×List MemPlace} (ht:P.underlying t=some (.slice e)) (hc:P.cellsOf e=sz) (hsz:sz≠0)
  (hel:∀ n cs y,cs.length=sz→DataW.trod enc P w base spare held n e cs=some y→∃ a,Φ a∧(f a).length=sz∧z6L w cs (f a)) (h:DataW.trod enc P w base spare held fuel t [v]=some x):
  ∃ l:List α,l.length≤9223372036854775807∧(∀ a ∈ l,Φ a)∧LfR (Was w) w (.recs sz (l.map f)) v:=by
 rcases DataW.trod_slice ht h with ⟨hcs,_⟩ |⟨a,len,cap,elems,rest,n,_,hcs,_,hb,hl,hm,hlen,hel2,hsp,hns⟩
 ·simp at hcs
  subst hcs
  exact⟨[],by simp,fun a h=>(by cases h),LfR.recs _ _ _ _ _ (fun _ _=>undef) rfl (Nat.le_refl _) (Nat.zero_le _) (fun r h=>by cases h) (fun h=>absurd rfl h) (fun i r j x h=>by simp at h)⟩
 ·simp at hcs
  subst hcs
  have each:∀ i:_root_.Fin len,∃ a':α,Φ a'∧(f a').length=sz∧∀(j:Nat) (z:Leaf),(f a')[j]? =some z→∃ u,w.cell? ((a.add (i.val*sz)).add j)=some u∧LfR (Was w) w z u:=by
   intro i
   have h1:=hel2 i.val i.isLt
   rw[hc] at h1
   have h2:elems[i.val]? =some elems[i.val]:=by simp[hlen]
   rw[h2] at h1
   obtain⟨cs,e1,e2⟩:=Option.bind_eq_some_iff.1 h1
   obtain⟨q1,q2,q3⟩:=World.cells?_some e1
   obtain⟨a',p1,p2,p3,p4⟩:=hel n cs _ q2 e2
   refine⟨a',p1,p2,fun j z hz=>?_⟩
   obtain⟨u,u1,u2⟩:=p4 j z hz
   have hj:j<sz:=by
    have:=(List.getElem?_eq_some_iff.1 hz).1
    omega
   refine⟨u,?_,u2⟩
   rw[q3 j hj]
   exact u1
  obtain⟨g,hg⟩:=Classical.axiomOfChoice each
  have hm':cap≤9223372036854775807:=hm
  refine⟨List.ofFn g,by simp; omega,fun a' ha=>?_,?_⟩
  ·obtain⟨i,rfl⟩:=(List.mem_ofFn).1 ha
   exact(hg i).1
  ·have hget:∀(i:Nat) (r:List Leaf),((List.ofFn g).map f)[i]? =some r→∃ hi:i<len,r=f (g ⟨i,hi⟩):=by
    intro i r hr
    rw[List.getElem?_map,Option.map_eq_some_iff] at hr
    obtain⟨q,hq,rfl⟩:=hr
    rw[List.getElem?_ofFn] at hq
    split at hq
    ·rename_i hi
     exact⟨hi,by rw[←Option.some.inj hq]⟩
    ·cases hq
   obtain⟨b,o,sp⟩:=a
   have hone:0<len→sp=none∧b<w.heap.size:=by
    intro h0
    obtain⟨_,p2,p3⟩:=hg ⟨0,h0⟩
    obtain⟨z,hz⟩:∃ z,(f (g ⟨0,h0⟩))[0]? =some z:=⟨(f (g ⟨0,h0⟩))[0]'(by omega),by simp⟩
    obtain⟨u,u1,_⟩:=p3 0 z hz
    have:=zeO u1
    simp[Addr.add] at this
    exact⟨this.2,this.1⟩
   refine LfR.recs _ _ _ _ _ (fun i j=>(w.cell? ⟨b,o+i*sz+j,none⟩).getD undef) (by simp) hl hm (fun r hr=>?_) (fun hne=>?_) (fun i r j x hi hj=>?_)
   ·obtain⟨a',ha,rfl⟩:=List.mem_map.1 hr
    obtain⟨i,rfl⟩:=(List.mem_ofFn).1 ha
    exact(hg i).2.1
   ·have h0:0<len:=by
     rcases Nat.eq_zero_or_pos len with h | h
     ·subst h; simp at hne
     ·exact h
    obtain⟨rfl,hb1⟩:=hone h0
    refine⟨b,o,rfl,hb1,fun i r j x hi hj=>?_⟩
    obtain⟨hi',rfl⟩:=hget i r hi
    obtain⟨u,u1,_⟩:=(hg ⟨i,hi'⟩).2.2 j x hj
    rw[z0D,z0D] at u1
    rw[u1]; rfl
   ·obtain⟨hi',rfl⟩:=hget i r hi
    obtain⟨rfl,hb1⟩:=hone (by omega)
    obtain⟨u,u1,u2⟩:=(hg ⟨i,hi'⟩).2.2 j x hj
    rw[z0D,z0D] at u1
    rw[u1]; exact u2
theorem zdf {k:IntKind} {ty:TypeId} (ht:P.underlying ty=some (.int k)):∀ n c y,DataW.trod enc P w base spare held n ty [c]=some y→∃ x:Int,(Lit.int k x).wf=true∧LfR (Was w) w (.v (.int k x)) c:=by
 intro n c y h
 obtain⟨a,e0,_,w0⟩:=DataW.trod_int ht h
 simp at e0
 subst e0
 exact⟨_,w0,.v _ rfl⟩
theorem zhu {ty:TypeId} (ht:P.underlying ty=some .bool):∀ n c y,DataW.trod enc P w base spare held n ty [c]=some y→∃ x:Bool,True∧LfR (Was w) w (.v (.bool x)) c:=by
 intro n c y h
 obtain⟨b,e0,_⟩:=DataW.trod_bool ht h
 simp at e0
 subst e0
 exact⟨_,trivial,.v _ rfl⟩
theorem z4N {ty e:TypeId} (ht:P.underlying ty=some (.slice e)) (he:P.underlying e=some (.int .u8)) (hc:P.cellsOf e=1):∀ n c y,DataW.trod enc P w base spare held n ty [c]=some y→∃ x:List Int,(x.length≤9223372036854775807∧∀ n ∈ x,0≤n∧n<256)∧LfR (Was w) w (.ints .u8 x) c:=by
 intro n c y h
 obtain⟨l,h1,h2,h3⟩:=z9s ht he hc h
 exact⟨l,⟨h1,fun n hn=>zkl (h2 n hn)⟩,h3⟩
theorem z6o {k:IntKind} {ty e:TypeId} (ht:P.underlying ty=some (.slice e)) (he:P.underlying e=some (.int k)) (hc:P.cellsOf e=1):∀ n c y,DataW.trod enc P w base spare held n ty [c]=some y→∃ x:List Int,(x.length≤9223372036854775807∧∀ n ∈ x,(Lit.int k n).wf=true)∧LfR (Was w) w (.ints k x) c:=by
 intro n c y h
 obtain⟨l,h1,h2,h3⟩:=z9s ht he hc h
 exact⟨l,⟨h1,h2⟩,h3⟩
end
section
variable {H:Type} {enc:TypeId×Value→H} {P:Program} {w:World} {base:Nat} {spare:Nat→Bool} {held:Bool}
def z3e (enc:TypeId×Value→H) (P:Program) (w:World) (base:Nat) (spare:Nat→Bool) (held:Bool) {A:Type} (t:TypeId) (k:Nat) (f:A→List Leaf) (Φ:A→Prop):Prop:=
 ∀ n cs y,cs.length=k→DataW.trod enc P w base spare held n t cs=some y→∃ a,Φ a∧(f a).length=k∧z6L w cs (f a)
theorem z1Z {A:Type} {t:TypeId} {g:A→Leaf} {Φ:A→Prop} (h:∀ n c y,DataW.trod enc P w base spare held n t [c]=some y→∃ x,Φ x∧LfR (Was w) w (g x) c):z3e enc P w base spare held t 1 (fun x=> [g x]) Φ:=by
 intro n cs y hcs hy
 match cs,hcs with
 | [c],_=>
   obtain⟨x,h1,h2⟩:=h n c y hy
   refine⟨x,h1,rfl,rfl,fun j z hz=>?_⟩
   cases j with
   | zero=>simp at hz; subst hz; exact⟨c,rfl,h2⟩
   | succ j=>simp at hz
theorem z7p {cs:List Value} {k0 k1:Nat} {l0 l1:List Leaf} (hk:cs.length=k0+k1) (h0:z6L w (cs.take k0) l0) (h1:z6L w ((cs.drop k0).take k1) l1):z6L w cs (l0++l1):=by
 have e0:l0.length=k0:=by rw[←h0.1]; simp; omega
 have e1:l1.length=k1:=by rw[←h1.1]; simp; omega
 refine⟨by simp; omega,fun j z hz=>?_⟩
 rcases Nat.lt_or_ge j k0 with h | h
 ·rw[List.getElem?_append_left (by omega)] at hz
  obtain⟨u,a,b⟩:=h0.2 j z hz
  rw[List.getElem?_take_of_lt h] at a
  exact⟨u,a,b⟩
 ·rw[List.getElem?_append_right (by omega),e0] at hz
  obtain⟨u,a,b⟩:=h1.2 (j -k0) z hz
  have hj:j -k0<k1:=by
   have:=(List.getElem?_eq_some_iff.1 hz).1
   omega
  rw[List.getElem?_take_of_lt hj,List.getElem?_drop,show k0+(j -k0)=j by omega] at a
  exact⟨u,a,b⟩
theorem z88 {A B:Type} {t:TypeId} {f0 f1:Field} {k0 k1:Nat} {g0:A→List Leaf} {g1:B→List Leaf} {Φ0:A→Prop} {Φ1:B→Prop} (ht:P.underlying t=some (.struct #[f0,f1])) (ho:f0.offset=0∧f1.offset=k0) (hc0:P.cellsOf f0.type=k0) (hc1:P.cellsOf f1.type=k1)
  (h0:z3e enc P w base spare held f0.type k0 g0 Φ0) (h1:z3e enc P w base spare held f1.type k1 g1 Φ1):z3e enc P w base spare held t (k0+k1) (fun x:A×B=>g0 x.1++g1 x.2) (fun x=>Φ0 x.1∧Φ1 x.2):=by
 intro n cs y hcs hy
 obtain⟨y0,y1,m,_,_,z0,z1⟩:=trod_struct2 ht hy
 rw[ho.1,hc0,List.drop_zero] at z0
 rw[ho.2,hc1] at z1
 obtain⟨a,a1,a2,a3⟩:=h0 m _ _ (by simp; omega) z0
 obtain⟨b,b1,b2,b3⟩:=h1 m _ _ (by simp; omega) z1
 exact⟨(a,b),⟨a1,b1⟩,by simp[a2,b2],z7p hcs a3 b3⟩
theorem z5e {A B C:Type} {t:TypeId} {f0 f1 f2:Field} {k0 k1 k2:Nat} {g0:A→List Leaf} {g1:B→List Leaf} {g2:C→List Leaf} {Φ0:A→Prop} {Φ1:B→Prop} {Φ2:C→Prop} (ht:P.underlying t=some (.struct #[f0,f1,f2])) (ho:f0.offset=0∧f1.offset=k0∧f2.offset=k0+k1) (hc0:P.cellsOf f0.type=k0) (hc1:P.cellsOf f1.type=k1) (hc2:P.cellsOf f2.type=k2)
  (h0:z3e enc P w base spare held f0.type k0 g0 Φ0) (h1:z3e enc P w base spare held f1.type k1 g1 Φ1) (h2:z3e enc P w base spare held f2.type k2 g2 Φ2):z3e enc P w base spare held t (k0+k1+k2) (fun x:A×B×C=>g0 x.1++g1 x.2.1++g2 x.2.2) (fun x=>Φ0 x.1∧Φ1 x.2.1∧Φ2 x.2.2):=by
 intro n cs y hcs hy
 obtain⟨y0,y1,y2,m,_,_,z0,z1,z2⟩:=trod_struct3 ht hy
 rw[ho.1,hc0,List.drop_zero] at z0
 rw[ho.2.1,hc1] at z1
 rw[ho.2.2,hc2] at z2
 obtain⟨a,a1,a2,a3⟩:=h0 m _ _ (by simp; omega) z0
 obtain⟨b,b1,b2,b3⟩:=h1 m _ _ (by simp; omega) z1
 obtain⟨c,c1,c2,c3⟩:=h2 m _ _ (by simp; omega) z2
 refine⟨(a,b,c),⟨a1,b1,c1⟩,by simp[a2,b2,c2]; omega,z7p hcs (z7p (k0:=k0) (k1:=k1) (by simp; omega) ?_ ?_) c3⟩
 ·rw[List.take_take,Nat.min_eq_left (by omega)]; exact a3
 ·rw[List.drop_take,show k0+k1 -k0=k1 by omega,List.take_take,Nat.min_self]; exact b3
theorem zfT {A:Type} {t e:TypeId} {k:Nat} {f:A→List Leaf} {Φ:A→Prop} {v:Value} {d:DataW H} {p:List MemPlace} {r:Reach} {b0:Nat} (ht:P.underlying t=some (.slice e)) (hc:P.cellsOf e=k) (hk:Nat.beq k 0=false) (hR:z3e enc P w base spare held e k f Φ)
  (hv:Value.okWide P w r b0 t v) (h:DataW.Trod enc P w base spare held t v d p):∃ l:List A,l.length≤9223372036854775807∧(∀ a ∈ l,Φ a)∧∀ β,AvR β (Was w) w (.c (.lf (.recs k (l.map f)))) v:=by
 obtain⟨a,n,c,rfl⟩:=okWide_slice ht hv
 obtain⟨fuel,h⟩:=h
 simp only[Value.cells] at h
 obtain⟨l,h1,h2,h3⟩:=zbx (f:=f) (Φ:=Φ) ht hc (by rintro rfl; simp at hk) (fun n cs y hcs hy=>hR n cs y hcs hy) h
 exact⟨l,h1,h2,fun β=> .c (.lf h3)⟩
end
end Go.Sx
namespace Go.Sx
set_option linter.unusedSimpArgs false
set_option linter.unusedVariables false
open Go
open Go.ChangeShapes Go.WideShapes Go.ChangeAt Go.RowKit Go.Joins Go.Deep
set_option linter.unusedVariables false
theorem z3w {H:Type} {enc:TypeId×Value→H} {P:Program} {w:World} {base:Nat} {spare:Nat→Bool} {held:Bool} {A:Type} {t e:TypeId} {k:Nat} {f:A→List Leaf} {Φ:A→Prop} (ht:P.underlying t=some (.slice e)) (hc:P.cellsOf e=k) (hk:Nat.beq k 0=false)
  (hR:z3e enc P w base spare held e k f Φ):z3e enc P w base spare held t 1 (fun l:List A=> [.recs k (l.map f)]) (fun l=>l.length≤9223372036854775807∧∀ a ∈ l,Φ a):=
 z1Z fun n c y h=>by
  obtain⟨l,h1,h2,h3⟩:=zbx (f:=f) (Φ:=Φ) ht hc (by rintro rfl; simp at hk) (fun n cs y hcs hy=>hR n cs y hcs hy) h
  exact⟨l,⟨h1,h2⟩,h3⟩
end Go.Sx
namespace Go.Proofs.YtaagjnlkinojcaaGreat
open Go Go.Sx
def AtX (a:AtT):Prop:=(a.1.length≤9223372036854775807∧∀ n ∈ a.1,(Lit.int .i64 n).wf=true)∧(a.2.length≤9223372036854775807∧∀ n ∈ a.2,0≤n∧n<256)
def StX (r:List AtT):Prop:=r.length≤9223372036854775807∧∀ a ∈ r,AtX a
def GnX (g:GnT):Prop:=(Lit.int .i64 g.1).wf=true∧(g.2.1.length≤9223372036854775807∧∀ n ∈ g.2.1,0≤n∧n<256)∧(g.2.2.length≤9223372036854775807∧∀ r ∈ g.2.2,StX r)
theorem AtX.i {a:AtT} (h:AtX a):AtI a:=⟨h.1.1,h.2.1,h.2.2⟩
theorem StX.i {r:List AtT} (h:StX r):StI r:=⟨h.1,fun a ha=>(h.2 a ha).i⟩
theorem GnX.i {g:GnT} (h:GnX g):GnI g:=⟨h.2.1.1,h.2.1.2,⟨h.2.2.1,fun r hr=>(h.2.2.2 r hr).i⟩⟩
end Go.Proofs.YtaagjnlkinojcaaGreat
namespace Go.Proofs.YtaagjnlkinojcaaGreat
set_option linter.unusedSimpArgs false
set_option linter.unusedVariables false
open Go Go.Sx
def PtX (p:PtJ):Prop:=(True∧(p.1.2.1.length≤9223372036854775807∧∀ g ∈ p.1.2.1,GnX g)∧(p.1.2.2.length≤9223372036854775807∧∀ a ∈ p.1.2.2,AtX a))∧(p.2.1.length≤9223372036854775807∧∀ n ∈ p.2.1,(Lit.int .i64 n).wf=true)∧(p.2.2.length≤9223372036854775807∧∀ g ∈ p.2.2,GnX g)
theorem zdS (l:List PtJ) (hl:l.length≤9223372036854775807) (hw:∀ p ∈ l,PtX p):Ct Tryz.prog 7 [zaC l] [] (lv (.bool true)) [] []:=
 zfS l hl fun p hp=>⟨⟨⟨(hw p hp).1.2.1.1,fun x hx=>((hw p hp).1.2.1.2 x hx).i⟩,⟨(hw p hp).1.2.2.1,fun a ha=>((hw p hp).1.2.2.2 a ha).i⟩⟩,(hw p hp).2.1.1,⟨(hw p hp).2.2.1,fun x hx=>((hw p hp).2.2.2 x hx).i⟩⟩
end Go.Proofs.YtaagjnlkinojcaaGreat
namespace Go.Proofs.YtaagjnlkinojcaaGreat
set_option linter.unusedSimpArgs false
set_option linter.unusedVariables false
open Go.Sx
set_option maxRecDepth 10000
theorem z9l:PtB (none,[],[]):=⟨trivial,Nat.zero_le _,Nat.zero_le _,fun _ h=>absurd h List.not_mem_nil⟩
theorem zpU {x:List Int} (hw:WfB x) (hl:x.length≤11760000):PtB (z42 x).1:=by
 have h1:=zvY hw hl 0 (2,0,true)
 unfold z42
 dsimp only
 generalize z0i none x 0 (2,0,true) z3t=A at*
 obtain⟨a,pa,ea⟩:=A
 dsimp only at*
 split
 ·have h2:=zvZ x pa (2,1,false)
  generalize z0i [] x pa (2,1,false) z1p=B at*
  obtain⟨b,pb,eb⟩:=B
  dsimp only at*
  split
  ·have h3:=z3F [] x pb (2,2,true) z16
   generalize z0i [] x pb (2,2,true) z16=C at*
   obtain⟨c,pc,ec⟩:=C
   dsimp only at*
   have hc:(∀ g ∈ c,GnB g)∧c.length≤10000:=by
    rcases h3 with h |⟨y,q1,q2,q3,q4⟩
    ·subst h; exact⟨fun _ h=>absurd h List.not_mem_nil,Nat.zero_le _⟩
    ·subst q4; exact zeJ (fun z hz=>hw z (q2 z hz)) (by omega) q3
   split
   ·split
    ·exact z9l
    ·split
     ·exact⟨h1,by dsimp only; omega,by have:=hc.2; dsimp only; omega,hc.1⟩
     ·exact z9l
   ·exact z9l
  ·exact z9l
 ·exact z9l
theorem zhv {l:List Int} (hw:WfB l) (hl:l.length≤11760000) (p:Nat) (hp:p≤l.length):PtB (z1t l p).1:=by
 have hm:=z0H l p (ofT 16)
 unfold z1t
 dsimp only
 generalize z0r l p (ofT 16)=X at*
 obtain⟨y,q,e⟩:=X
 dsimp only at*
 split
 ·split
  ·exact zpU (fun z hz=>hw z (hm.2 z hz)) (by omega)
  ·exact z9l
 ·exact z9l
theorem zeD {x:List Int} (hw:WfB x) (hl:x.length≤11760000):∀(f p:Nat) (acc:List PtT),p≤x.length→(∀ g ∈ acc,PtB g)→acc.length≤10000→(∀ g ∈ (z2q x f p acc).1,PtB g)∧(z2q x f p acc).1.length≤10000
 | 0,p,acc,_,_,_=>⟨fun _ h=>absurd h List.not_mem_nil,Nat.zero_le _⟩
 | f+1,p,acc,hp,h1,h2=>by
   rw[z2q]
   split
   ·split
    ·exact⟨fun _ h=>absurd h List.not_mem_nil,Nat.zero_le _⟩
    ·dsimp only
     split
     ·have hb:=zhv hw hl p hp
      refine zeD hw hl f _ _ (z6K x p hp).2 (fun g hg=>?_) (by rw[List.length_append,List.length_singleton]; omega)
      rcases List.mem_append.1 hg with hg | hg
      ·exact h1 g hg
      ·rw[List.mem_singleton.1 hg]; exact hb
     ·exact⟨fun _ h=>absurd h List.not_mem_nil,Nat.zero_le _⟩
   ·exact⟨h1,h2⟩
theorem zld {l:List Int} (hw:WfB l) (hl:l.length≤11760000):(∀ g ∈ (z2P l 0).1,PtB g)∧(z2P l 0).1.length≤10000:=by
 have hm:=z0H l 0 (ofT 16)
 have hn:(∀ g ∈ ([]:List PtT),PtB g)∧([]:List PtT).length≤10000:=⟨fun _ h=>absurd h List.not_mem_nil,Nat.zero_le _⟩
 unfold z2P
 dsimp only
 generalize z0r l 0 (ofT 16)=X at*
 obtain⟨y,q,e⟩:=X
 dsimp only at*
 split
 ·split
  ·exact hn
  ·split
   ·exact zeD (fun z hz=>hw z (hm.2 z hz)) (by omega) _ 0 [] (Nat.zero_le _) (fun _ h=>absurd h List.not_mem_nil) (Nat.zero_le _)
   ·exact hn
 ·exact hn
end Go.Proofs.YtaagjnlkinojcaaGreat

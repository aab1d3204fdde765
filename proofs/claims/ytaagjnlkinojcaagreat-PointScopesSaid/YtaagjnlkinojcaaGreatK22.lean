/-
  The law PointScopes on what came in. No condition.
-/
import Derived.Test.YtaagjnlkinojcaaGreatK20
import Derived.Test.YtaagjnlkinojcaaGreatK17
import Derived.Test.YtaagjnlkinojcaaGreatQ29
import Derived.Test.YtaagjnlkinojcaaGreatK8
import Derived.Test.YtaagjnlkinojcaaGreatK13
import Derived.Test.YtaagjnlkinojcaaGreatSxA
import Derived.Test.YtaagjnlkinojcaaGreatD15
import Derived.Test.YtaagjnlkinojcaaGreatQ23
namespace Go.Proofs.YtaagjnlkinojcaaGreat
set_option linter.unusedSimpArgs false
set_option linter.unusedVariables false
open Go.Sx
set_option maxRecDepth 10000
theorem zgP (o:Option WhT):(if o.isSome=true then some (whD o) else none)=o:=by cases o<;>rfl
structure WhS (w:WhT):Prop where
 v:WhV w
 h:WhH w
 l:(z1g (some w)).length≤732100
 w:WfB (z1g (some w))
theorem zrk {w:WhT} (h:WhI w) (hok:z2Q (whU w)=true):WhS (whU w):=by
 obtain⟨b1,b2⟩:=zk6 h
 obtain⟨g1,g2⟩:=zhq h.g
 obtain⟨s1,s2⟩:=zfI h.s
 have hp:z1g (some (whU w))=z04 (2,0,true) (z2H (whU w)):=rfl
 unfold z2Q at hok
 by_cases h0:0<(stT w.2).length
 ·rw[if_pos h0,Bool.and_eq_true,decide_eq_true_iff] at hok
  obtain⟨k1,k2⟩:=hok
  have l1:(z0i (stT w.2)).length≤7300:=zdl k2 fun a ha=>(s2 a ha).2
  have l2:=zbs (stT w.2)
  have hw:=zbT atW (stT w.2) fun a ha=>zhp ((z3X k2).2.2.1 a ha) (s2 a ha).1.w
  have hg:z4K w.1= []:=List.eq_nil_of_length_eq_zero k1
  have hi:z2H (whU w)=z04 (2,1,true) ((stT w.2).flatMap atW):=by unfold z2H; rw[if_pos h0]
  have q1:=z0t (2,1,true) ((stT w.2).flatMap atW)
  have q2:=z0t (2,0,true) (z04 (2,1,true) ((stT w.2).flatMap atW))
  refine⟨⟨b1,by dsimp only; rw[hg]; exact Nat.zero_le _,by dsimp only; omega,hw⟩,⟨fun g hgm=>by dsimp only at hgm; rw[hg] at hgm; exact absurd hgm List.not_mem_nil,by dsimp only; rw[hg]; exact Nat.zero_le _,fun a ha=>⟨(s2 a ha).1.w,Nat.le_trans (s2 a ha).2 (by decide)⟩⟩,?_,?_⟩
  ·rw[hp,hi]; omega
  ·rw[hp,hi]
   exact z1B _ _ (by decide) (z1B _ _ (by decide) hw)
 ·rw[if_neg h0] at hok
  have hk:=(z3f hok).2.2
  have l1:((z4K w.1).flatMap z0r).length≤732000:=zdm hk g1 fun g hg=>(g2 g hg).2
  have hw:=(b2.l hok).2
  have hs:stT w.2= []:=List.eq_nil_of_length_eq_zero (by omega)
  have hi:z2H (whU w)=z04 (2,0,true) ((z4K w.1).flatMap z0r):=by unfold z2H; rw[if_neg h0]
  have q1:=z0t (2,0,true) ((z4K w.1).flatMap z0r)
  have q2:=z0t (2,0,true) (z04 (2,0,true) ((z4K w.1).flatMap z0r))
  refine⟨⟨b1,by dsimp only; omega,by dsimp only; rw[hs]; exact Nat.zero_le _,by dsimp only; rw[hs]; exact fun x hx=>absurd hx List.not_mem_nil⟩,⟨fun g hg=>b2.h hok g hg,by dsimp only; omega,fun a ha=>by dsimp only at ha; rw[hs] at ha; exact absurd ha List.not_mem_nil⟩,?_,?_⟩
  ·rw[hp,hi]; omega
  ·rw[hp,hi]
   exact z1B _ _ (by decide) (z1B _ _ (by decide) hw)
def ziP:Option WhT→Prop
 | none=>True
 | some w=>z2Q w=true→WhS w
theorem zpx (b:Bool) {w:WhT} (h:WhI w):ziP (zdk b w)∧z4M (zdk b w):=by
 cases b
 ·exact⟨trivial,trivial⟩
 ·exact⟨fun hok=>zrk h hok,(zk6 h).1⟩
theorem zgQ {o:Option WhT} (h:ziP o) (hok:z5q o=true):(z1g o).length≤732100∧WfB (z1g o):=by
 cases o with
 | none=>exact⟨Nat.zero_le _,fun x hx=>absurd hx List.not_mem_nil⟩
 | some w=>exact⟨(h hok).l,(h hok).w⟩
theorem z8C (k:Int) (x:Bool) (hk:0≤k∧k≤30):WfB (z0p k x):=by
 unfold z0p
 split
 ·exact z1B _ _ (zdn hk) (fun x hx=>by rw[List.mem_singleton.1 hx]; decide)
 ·exact fun x hx=>absurd hx List.not_mem_nil
theorem zkJ (k:Int) {l:List Int} (h:z0Z l=true) (hk:0≤k∧k≤30):WfB (z1E k l):=by
 unfold z1E
 by_cases h0:l.length=0
 ·rw[if_pos h0]; exact fun x hx=>absurd hx List.not_mem_nil
 ·rw[if_neg h0]; exact z1B _ _ (zdn hk) (z9Q h (fun e=>h0 (by rw[e]; rfl))).1
theorem zpy {o:Option WhT} {f:Bool×Bool×Bool×Bool} {r:List Int} (h:ziP o) (hok:z3E (o,f,r)=true):ScH (o,f,r)∧(z3R (o,f,r)).length≤900000∧WfB (z3R (o,f,r)):=by
 obtain⟨h1,h2⟩:=z7s hok
 obtain⟨p1,p2⟩:=zgQ h h1
 have l1:=z2r 1 f.1
 have l2:=z2r 2 f.2.1
 have l3:=z98 3 h2
 have l4:=z2r 4 f.2.2.1
 have l5:=z2r 5 f.2.2.2
 have hc:(z60 (o,f,r)).length≤850000:=by
  unfold z60
  simp only[List.length_append]
  dsimp only at l3
  omega
 have q:=z0t (ofT 16) (z60 (o,f,r))
 refine⟨⟨fun w e=>?_,by omega⟩,by unfold z3R; omega,?_⟩
 ·dsimp only at e
  subst e
  exact(h h1).h
 ·unfold z3R z60
  exact z1B _ _ (by decide) (z3J p2 (z3J (z8C 1 _ (by decide)) (z3J (z8C 2 _ (by decide)) (z3J (zkJ 3 h2 (by decide)) (z3J (z8C 4 _ (by decide)) (z8C 5 _ (by decide)))))))
theorem zbR {o:Option WhT} (h:z4M o):WhB (whD o):=by
 cases o with
 | none=>exact⟨Nat.zero_le _,fun g hg=>absurd hg List.not_mem_nil,Nat.zero_le _,fun g hg=>absurd hg List.not_mem_nil⟩
 | some w=>exact h
theorem zgR {l:List Int} (hw:WfB l) (hl:l.length≤11760000) (p:Nat):z4M (z1P l p).1.1∧(z1P l p).1.2.2.length≤32:=by
 have hm:=z0H l p (ofT 16)
 have h0:z4M sc0.1∧sc0.2.2.length≤32:=⟨trivial,Nat.zero_le _⟩
 unfold z1P
 dsimp only
 generalize z0m l p (ofT 16)=X at*
 obtain⟨y,q,e⟩:=X
 dsimp only at*
 split
 ·split
  ·have hb:=zhF (x:=y) (fun z hz=>hw z (hm.2 z hz)) (by omega)
   rw[zeA]
   split
   ·split
    ·exact h0
    ·split
     ·exact hb
     ·exact h0
   ·exact h0
  ·exact h0
 ·exact h0
set_option maxHeartbeats 16000000 in
theorem zfw (b:Bool) (w:WhT) (f:Bool×Bool×Bool×Bool) (r x:List Int) (h:WhI w) (hr:r.length≤big) (hl0:x.length≤big) (hw0:WfB x):Ct Tryz.prog 6 [z6W b w f r,B8 x] [] (lv (.bool true)) [] []:=by
 have hkn:=zeC
 have g1:=zfa b w f r h hr
 obtain⟨hoS,hoB⟩:=zpx b h
 have hrr:(r.take 20).length≤20:=by simp; omega
 have hlb:(x.take (min (x.length:Int) 2000).toNat).length≤2000:=by simp; omega
 have hwb:WfB (x.take (min (x.length:Int) 2000).toNat):=fun y hy=>hw0 y (List.mem_of_mem_take hy)
 generalize zdk b w=o at*
 generalize r.take 20=s at*
 have g2:=z6Z o f s hoB
 have g3:=zho o f s hoB (by omega) (fun w e hk=>by subst e; exact(hoS hk).v) (fun hk=>Nat.le_trans (zgQ hoS hk).1 (by decide))
 have g4:=z6Y o f s hoB (by omega)
 have g5:=z6m o.isSome (whD o) f s (zbR hoB) (by omega)
 rw[zgP] at g5
 have g6:=z5P o.isSome (whD o) f s (zbR hoB) (by omega)
 by_cases hk:z3E (o,f,s)=true
 ·rw[hk] at g4 g5
  rw[if_pos hk,if_pos hk] at g3
  obtain⟨k1,k2⟩:=z7s hk
  obtain⟨p1,p2,p3⟩:=zpy hoS hk
  have g7:=zf9 o.isSome (whD o) f s (fun e=>by cases o with | none=>cases e | some w=>exact(hoS k1).v) (fun e=>by cases o with | none=>cases e | some w=>exact k1) k2
  rw[zgP] at g7
  have g8:=z8d (z3R (o,f,s)) 0 (Nat.zero_le _) (by omega) p3
  have hf:=zjo [] [] hk p1
  rw[List.nil_append,List.append_nil,List.length_nil] at hf
  rw[hf] at g8
  dsimp only at g8
  have g9:=z2f (z3R (o,f,s)) (by omega)
  have g10:=zam (z3R (o,f,s)) (z3R (o,f,s)) (by omega) (by omega)
  rw[decide_eq_true rfl] at g10
  generalize z3R (o,f,s)=W at*
  obtain⟨f1,f2,f3,f4⟩:=f
  obtain⟨wg,ws⟩:=w
  try dsimp only at*
  rcases o with _ |⟨g',s'⟩
  all_goals
   dsimp only[whD,Option.isSome] at*
   refine z00 Tryz.func6 rfl rfl rfl rfl rfl (fun E hn hb=>?_)
   repeat refine nx ?_
   generalize x.take (min (x.length:Int) 2000).toNat=y at*
   clear g2 g6 g8 g9
   have c1:=z2f y (by omega)
   have c2:=z8d y 0 (Nat.zero_le _) (by omega) hwb
   have c3:=z7D y 0 (Nat.zero_le _) (by omega) hwb
   obtain⟨e1,e2⟩:=zgR hwb (by omega) 0
   have c4:=z6Z _ (z1P y 0).1.2.1 (z1P y 0).1.2.2 e1
   have c5:=z5P (z1P y 0).1.1.isSome (whD (z1P y 0).1.1) (z1P y 0).1.2.1 (z1P y 0).1.2.2 (zbR e1) (by omega)
   generalize z1P y 0=R at*
   obtain⟨⟨o2,⟨i1,i2,i3,i4⟩,r2⟩,q,e⟩:=R
   have c6:=z1W y q
   dsimp only at*
   rcases o2 with _ |⟨g2',s2'⟩
   all_goals
    dsimp only[whD,Option.isSome] at*
    repeat refine nx ?_
    refine rt2 [] (congrArg (fun x=>lv (.bool x)) ?_) trivial; (simp[z16,Cell.kill,Cell.kill1])
 ·rw[if_neg hk,if_neg hk] at g3
  rw[Bool.not_eq_true] at hk
  rw[hk] at g4 g5
  obtain⟨f1,f2,f3,f4⟩:=f
  obtain⟨wg,ws⟩:=w
  try dsimp only at*
  rcases o with _ |⟨g',s'⟩
  all_goals
   dsimp only[whD,Option.isSome] at*
   refine z00 Tryz.func6 rfl rfl rfl rfl rfl (fun E hn hb=>?_)
   repeat refine nx ?_
   generalize x.take (min (x.length:Int) 2000).toNat=y at*
   clear g2 g6
   have c1:=z2f y (by omega)
   have c2:=z8d y 0 (Nat.zero_le _) (by omega) hwb
   have c3:=z7D y 0 (Nat.zero_le _) (by omega) hwb
   obtain⟨e1,e2⟩:=zgR hwb (by omega) 0
   have c4:=z6Z _ (z1P y 0).1.2.1 (z1P y 0).1.2.2 e1
   have c5:=z5P (z1P y 0).1.1.isSome (whD (z1P y 0).1.1) (z1P y 0).1.2.1 (z1P y 0).1.2.2 (zbR e1) (by omega)
   generalize z1P y 0=R at*
   obtain⟨⟨o2,⟨i1,i2,i3,i4⟩,r2⟩,q,e⟩:=R
   have c6:=z1W y q
   dsimp only at*
   rcases o2 with _ |⟨g2',s2'⟩
   all_goals
    dsimp only[whD,Option.isSome] at*
    repeat refine nx ?_
    refine rt2 [] (congrArg (fun x=>lv (.bool x)) ?_) trivial; (simp[z16,Cell.kill,Cell.kill1])
end Go.Proofs.YtaagjnlkinojcaaGreat
namespace Go.Sx
open Go
open Go.ChangeShapes Go.WideShapes Go.ChangeAt Go.RowKit Go.Joins Go.Deep
set_option linter.unusedVariables false
section
variable {H:Type} {enc:TypeId×Value→H} {P:Program} {w:World} {base:Nat} {spare:Nat→Bool} {held:Bool} {fuel:Nat}
def z5A (w:World) (cs:List Value) (ls:List Leaf):Prop:=cs.length=ls.length∧∀(j:Nat) (z:Leaf),ls[j]? =some z→∃ u,cs[j]? =some u∧LfR (Was w) w z u
theorem zgS {α:Type} {t e:TypeId} {sz:Nat} {f:α→List Leaf} {Φ:α→Prop} {v:Value} {x:DataW H×List MemPlace} (ht:P.underlying t=some (.slice e)) (hc:P.cellsOf e=sz) (hsz:sz≠0)
  (hel:∀ n cs y,cs.length=sz→DataW.trod enc P w base spare held n e cs=some y→∃ a,Φ a∧(f a).length=sz∧z5A w cs (f a)) (h:DataW.trod enc P w base spare held fuel t [v]=some x):
  ∃ l:List α,l.length≤9223372036854775807∧(∀ a ∈ l,Φ a)∧LfR (Was w) w (.recs sz (l.map f)) v:=by
 rcases DataW.trod_slice ht h with ⟨hcs,_⟩ |⟨a,len,cap,elems,rest,n,_,hcs,_,hb,hl,hm,hlen,hel2,hsp,hns⟩
 ·simp at hcs
  subst hcs
  exact⟨[],by simp,fun a h=>(by cases h),LfR.recs _ _ _ _ _ (fun _ _=>undef) rfl (Nat.le_refl _) (Nat.zero_le _) (fun r h=>by cases h) (fun h=>absurd rfl h) (fun i r j x h=>by simp at h)⟩
 ·simp at hcs
  subst hcs
  have each:∀ i:_root_.Fin len,∃ a':α,Φ a'∧(f a').length=sz∧∀(j:Nat) (z:Leaf),(f a')[j]? =some z→∃ u,w.cell? ((a.add (i.val*sz)).add j)=some u∧LfR (Was w) w z u:=by
   intro i
   have h1:=hel2 i.val i.isLt
   rw[hc] at h1
   have h2:elems[i.val]? =some elems[i.val]:=by simp[hlen]
   rw[h2] at h1
   obtain⟨cs,e1,e2⟩:=Option.bind_eq_some_iff.1 h1
   obtain⟨q1,q2,q3⟩:=World.cells?_some e1
   obtain⟨a',p1,p2,p3,p4⟩:=hel n cs _ q2 e2
   refine⟨a',p1,p2,fun j z hz=>?_⟩
   obtain⟨u,u1,u2⟩:=p4 j z hz
   have hj:j<sz:=by
    have:=(List.getElem?_eq_some_iff.1 hz).1
    omega
   refine⟨u,?_,u2⟩
   rw[q3 j hj]
   exact u1
  obtain⟨g,hg⟩:=Classical.axiomOfChoice each
  have hm':cap≤9223372036854775807:=hm
  refine⟨List.ofFn g,by simp; omega,fun a' ha=>?_,?_⟩
  ·obtain⟨i,rfl⟩:=(List.mem_ofFn).1 ha
   exact(hg i).1
  ·have hget:∀(i:Nat) (r:List Leaf),((List.ofFn g).map f)[i]? =some r→∃ hi:i<len,r=f (g ⟨i,hi⟩):=by
    intro i r hr
    rw[List.getElem?_map,Option.map_eq_some_iff] at hr
    obtain⟨q,hq,rfl⟩:=hr
    rw[List.getElem?_ofFn] at hq
    split at hq
    ·rename_i hi
     exact⟨hi,by rw[←Option.some.inj hq]⟩
    ·cases hq
   obtain⟨b,o,sp⟩:=a
   have hone:0<len→sp=none∧b<w.heap.size:=by
    intro h0
    obtain⟨_,p2,p3⟩:=hg ⟨0,h0⟩
    obtain⟨z,hz⟩:∃ z,(f (g ⟨0,h0⟩))[0]? =some z:=⟨(f (g ⟨0,h0⟩))[0]'(by omega),by simp⟩
    obtain⟨u,u1,_⟩:=p3 0 z hz
    have:=zeu u1
    simp[Addr.add] at this
    exact⟨this.2,this.1⟩
   refine LfR.recs _ _ _ _ _ (fun i j=>(w.cell? ⟨b,o+i*sz+j,none⟩).getD undef) (by simp) hl hm (fun r hr=>?_) (fun hne=>?_) (fun i r j x hi hj=>?_)
   ·obtain⟨a',ha,rfl⟩:=List.mem_map.1 hr
    obtain⟨i,rfl⟩:=(List.mem_ofFn).1 ha
    exact(hg i).2.1
   ·have h0:0<len:=by
     rcases Nat.eq_zero_or_pos len with h | h
     ·subst h; simp at hne
     ·exact h
    obtain⟨rfl,hb1⟩:=hone h0
    refine⟨b,o,rfl,hb1,fun i r j x hi hj=>?_⟩
    obtain⟨hi',rfl⟩:=hget i r hi
    obtain⟨u,u1,_⟩:=(hg ⟨i,hi'⟩).2.2 j x hj
    rw[z0C,z0C] at u1
    rw[u1]; rfl
   ·obtain⟨hi',rfl⟩:=hget i r hi
    obtain⟨rfl,hb1⟩:=hone (by omega)
    obtain⟨u,u1,u2⟩:=(hg ⟨i,hi'⟩).2.2 j x hj
    rw[z0C,z0C] at u1
    rw[u1]; exact u2
theorem ziQ {k:IntKind} {ty:TypeId} (ht:P.underlying ty=some (.int k)):∀ n c y,DataW.trod enc P w base spare held n ty [c]=some y→∃ x:Int,(Lit.int k x).wf=true∧LfR (Was w) w (.v (.int k x)) c:=by
 intro n c y h
 obtain⟨a,e0,_,w0⟩:=DataW.trod_int ht h
 simp at e0
 subst e0
 exact⟨_,w0,.v _ rfl⟩
theorem z5f {ty:TypeId} (ht:P.underlying ty=some .bool):∀ n c y,DataW.trod enc P w base spare held n ty [c]=some y→∃ x:Bool,True∧LfR (Was w) w (.v (.bool x)) c:=by
 intro n c y h
 obtain⟨b,e0,_⟩:=DataW.trod_bool ht h
 simp at e0
 subst e0
 exact⟨_,trivial,.v _ rfl⟩
theorem z7i {ty e:TypeId} (ht:P.underlying ty=some (.slice e)) (he:P.underlying e=some (.int .u8)) (hc:P.cellsOf e=1):∀ n c y,DataW.trod enc P w base spare held n ty [c]=some y→∃ x:List Int,(x.length≤9223372036854775807∧∀ n ∈ x,0≤n∧n<256)∧LfR (Was w) w (.ints .u8 x) c:=by
 intro n c y h
 obtain⟨l,h1,h2,h3⟩:=z9s ht he hc h
 exact⟨l,⟨h1,fun n hn=>zk7 (h2 n hn)⟩,h3⟩
theorem z82 {k:IntKind} {ty e:TypeId} (ht:P.underlying ty=some (.slice e)) (he:P.underlying e=some (.int k)) (hc:P.cellsOf e=1):∀ n c y,DataW.trod enc P w base spare held n ty [c]=some y→∃ x:List Int,(x.length≤9223372036854775807∧∀ n ∈ x,(Lit.int k n).wf=true)∧LfR (Was w) w (.ints k x) c:=by
 intro n c y h
 obtain⟨l,h1,h2,h3⟩:=z9s ht he hc h
 exact⟨l,⟨h1,h2⟩,h3⟩
end
section
variable {H:Type} {enc:TypeId×Value→H} {P:Program} {w:World} {base:Nat} {spare:Nat→Bool} {held:Bool}
def z2l (enc:TypeId×Value→H) (P:Program) (w:World) (base:Nat) (spare:Nat→Bool) (held:Bool) {A:Type} (t:TypeId) (k:Nat) (f:A→List Leaf) (Φ:A→Prop):Prop:=
 ∀ n cs y,cs.length=k→DataW.trod enc P w base spare held n t cs=some y→∃ a,Φ a∧(f a).length=k∧z5A w cs (f a)
theorem z1T {A:Type} {t:TypeId} {g:A→Leaf} {Φ:A→Prop} (h:∀ n c y,DataW.trod enc P w base spare held n t [c]=some y→∃ x,Φ x∧LfR (Was w) w (g x) c):z2l enc P w base spare held t 1 (fun x=> [g x]) Φ:=by
 intro n cs y hcs hy
 match cs,hcs with
 | [c],_=>
   obtain⟨x,h1,h2⟩:=h n c y hy
   refine⟨x,h1,rfl,rfl,fun j z hz=>?_⟩
   cases j with
   | zero=>simp at hz; subst hz; exact⟨c,rfl,h2⟩
   | succ j=>simp at hz
theorem z5u {cs:List Value} {k0 k1:Nat} {l0 l1:List Leaf} (hk:cs.length=k0+k1) (h0:z5A w (cs.take k0) l0) (h1:z5A w ((cs.drop k0).take k1) l1):z5A w cs (l0++l1):=by
 have e0:l0.length=k0:=by rw[←h0.1]; simp; omega
 have e1:l1.length=k1:=by rw[←h1.1]; simp; omega
 refine⟨by simp; omega,fun j z hz=>?_⟩
 rcases Nat.lt_or_ge j k0 with h | h
 ·rw[List.getElem?_append_left (by omega)] at hz
  obtain⟨u,a,b⟩:=h0.2 j z hz
  rw[List.getElem?_take_of_lt h] at a
  exact⟨u,a,b⟩
 ·rw[List.getElem?_append_right (by omega),e0] at hz
  obtain⟨u,a,b⟩:=h1.2 (j -k0) z hz
  have hj:j -k0<k1:=by
   have:=(List.getElem?_eq_some_iff.1 hz).1
   omega
  rw[List.getElem?_take_of_lt hj,List.getElem?_drop,show k0+(j -k0)=j by omega] at a
  exact⟨u,a,b⟩
theorem zbg {A B:Type} {t:TypeId} {f0 f1:Field} {k0 k1:Nat} {g0:A→List Leaf} {g1:B→List Leaf} {Φ0:A→Prop} {Φ1:B→Prop} (ht:P.underlying t=some (.struct #[f0,f1])) (ho:f0.offset=0∧f1.offset=k0) (hc0:P.cellsOf f0.type=k0) (hc1:P.cellsOf f1.type=k1)
  (h0:z2l enc P w base spare held f0.type k0 g0 Φ0) (h1:z2l enc P w base spare held f1.type k1 g1 Φ1):z2l enc P w base spare held t (k0+k1) (fun x:A×B=>g0 x.1++g1 x.2) (fun x=>Φ0 x.1∧Φ1 x.2):=by
 intro n cs y hcs hy
 obtain⟨y0,y1,m,_,_,z0,z1⟩:=trod_struct2 ht hy
 rw[ho.1,hc0,List.drop_zero] at z0
 rw[ho.2,hc1] at z1
 obtain⟨a,a1,a2,a3⟩:=h0 m _ _ (by simp; omega) z0
 obtain⟨b,b1,b2,b3⟩:=h1 m _ _ (by simp; omega) z1
 exact⟨(a,b),⟨a1,b1⟩,by simp[a2,b2],z5u hcs a3 b3⟩
theorem z8R {A B C:Type} {t:TypeId} {f0 f1 f2:Field} {k0 k1 k2:Nat} {g0:A→List Leaf} {g1:B→List Leaf} {g2:C→List Leaf} {Φ0:A→Prop} {Φ1:B→Prop} {Φ2:C→Prop} (ht:P.underlying t=some (.struct #[f0,f1,f2])) (ho:f0.offset=0∧f1.offset=k0∧f2.offset=k0+k1) (hc0:P.cellsOf f0.type=k0) (hc1:P.cellsOf f1.type=k1) (hc2:P.cellsOf f2.type=k2)
  (h0:z2l enc P w base spare held f0.type k0 g0 Φ0) (h1:z2l enc P w base spare held f1.type k1 g1 Φ1) (h2:z2l enc P w base spare held f2.type k2 g2 Φ2):z2l enc P w base spare held t (k0+k1+k2) (fun x:A×B×C=>g0 x.1++g1 x.2.1++g2 x.2.2) (fun x=>Φ0 x.1∧Φ1 x.2.1∧Φ2 x.2.2):=by
 intro n cs y hcs hy
 obtain⟨y0,y1,y2,m,_,_,z0,z1,z2⟩:=trod_struct3 ht hy
 rw[ho.1,hc0,List.drop_zero] at z0
 rw[ho.2.1,hc1] at z1
 rw[ho.2.2,hc2] at z2
 obtain⟨a,a1,a2,a3⟩:=h0 m _ _ (by simp; omega) z0
 obtain⟨b,b1,b2,b3⟩:=h1 m _ _ (by simp; omega) z1
 obtain⟨c,c1,c2,c3⟩:=h2 m _ _ (by simp; omega) z2
 refine⟨(a,b,c),⟨a1,b1,c1⟩,by simp[a2,b2,c2]; omega,z5u hcs (z5u (k0:=k0) (k1:=k1) (by simp; omega) ?_ ?_) c3⟩
 ·rw[List.take_take,Nat.min_eq_left (by omega)]; exact a3
 ·rw[List.drop_take,show k0+k1 -k0=k1 by omega,List.take_take,Nat.min_self]; exact b3
def z7j (enc:TypeId×Value→H) (P:Program) (w:World) (base:Nat) (spare:Nat→Bool) (held:Bool) {A:Type} (fs:List Field) (o k:Nat) (f:A→List Leaf) (Φ:A→Prop):Prop:=
 ∀(n:Nat) (cs:List Value),o+k≤cs.length→(∀ fd ∈ fs,∃ y,DataW.trod enc P w base spare held n fd.type ((cs.drop fd.offset).take (P.cellsOf fd.type))=some y)→∃ a,Φ a∧(f a).length=k∧z5A w ((cs.drop o).take k) (f a)
theorem z9Z {A:Type} {fd:Field} {o k:Nat} {g:A→List Leaf} {Φ:A→Prop} (ho:fd.offset=o) (hc:P.cellsOf fd.type=k) (h:z2l enc P w base spare held fd.type k g Φ):z7j enc P w base spare held [fd] o k g Φ:=by
 intro n cs hl hf
 obtain⟨y,hy⟩:=hf fd (List.mem_singleton.2 rfl)
 rw[ho,hc] at hy
 exact h n _ y (by rw[List.length_take,List.length_drop]; omega) hy
theorem z4b {A B:Type} {fd:Field} {fs:List Field} {o k0 k1:Nat} {g0:A→List Leaf} {g1:B→List Leaf} {Φ0:A→Prop} {Φ1:B→Prop} (ho:fd.offset=o) (hc:P.cellsOf fd.type=k0) (h0:z2l enc P w base spare held fd.type k0 g0 Φ0) (h1:z7j enc P w base spare held fs (o+k0) k1 g1 Φ1):
  z7j enc P w base spare held (fd::fs) o (k0+k1) (fun x:A×B=>g0 x.1++g1 x.2) (fun x=>Φ0 x.1∧Φ1 x.2):=by
 intro n cs hl hf
 obtain⟨a,a1,a2,a3⟩:=z9Z ho hc h0 n cs (by omega) (fun x hx=>hf x (by rw[List.mem_singleton.1 hx]; exact List.mem_cons_self ..))
 obtain⟨b,b1,b2,b3⟩:=h1 n cs (by omega) (fun x hx=>hf x (List.mem_cons_of_mem _ hx))
 refine⟨(a,b),⟨a1,b1⟩,by simp[a2,b2],z5u (k0:=k0) (k1:=k1) (by rw[List.length_take,List.length_drop]; omega) ?_ ?_⟩
 ·rw[List.take_take,Nat.min_eq_left (by omega)]; exact a3
 ·rw[List.drop_take,List.drop_drop,show k0+k1 -k0=k1 by omega,List.take_take,Nat.min_self]; exact b3
theorem zcS {A:Type} {t:TypeId} {fs:Array Field} {k:Nat} {f:A→List Leaf} {Φ:A→Prop} (ht:P.underlying t=some (.struct fs)) (h:z7j enc P w base spare held fs.toList 0 k f Φ):z2l enc P w base spare held t k f Φ:=by
 intro n cs y hcs hy
 obtain⟨xs,m,_,_,_,hl,hf⟩:=DataW.trod_struct ht hy
 obtain⟨a,a1,a2,a3⟩:=h m cs (by omega) (fun fd hfd=>by
  obtain⟨i,hi,e⟩:=List.mem_iff_getElem.1 hfd
  rw[Array.length_toList] at hi
  have h1:fs[i]? =some fd:=by rw[←e]; simp[hi]
  exact⟨xs[i],by rw[hf i fd h1]; simp[hl,hi]⟩)
 rw[List.drop_zero,List.take_of_length_le (by omega)] at a3
 exact⟨a,a1,a2,a3⟩
theorem ziR {A:Type} {t:TypeId} {fs:Array Field} {k:Nat} {f:A→List Leaf} {Φ:A→Prop} {v:Value} {d:DataW H} {p:List MemPlace} {r:Reach} {b0:Nat} (ht:P.underlying t=some (.struct fs)) (hC:P.cellsOf t=k) (hR:z2l enc P w base spare held t k f Φ)
  (hv:Value.okWide P w r b0 t v) (h:DataW.Trod enc P w base spare held t v d p):∃ a,Φ a∧∀ β,AvR β (Was w) w (.agg ((f a).map Cell.lf)) v:=by
 obtain⟨cs,rfl,hsz⟩:=okWide_struct ht hv
 obtain⟨fuel,hf⟩:=h
 simp only[Value.cells] at hf
 obtain⟨a,h1,h2,h3,h4⟩:=hR fuel cs.toList _ (by simpa[hC] using hsz) hf
 refine⟨a,h1,fun β=> .agg _ _ (by simpa using h3) fun i x u hx hu=>?_⟩
 rw[List.getElem?_map,Option.map_eq_some_iff] at hx
 obtain⟨z,hz,rfl⟩:=hx
 obtain⟨u',e1,e2⟩:=h4 i z hz
 rw[Array.getElem?_toList] at e1
 rw[e1] at hu
 cases hu
 exact .lf e2
end
end Go.Sx
namespace Go.Sx
set_option linter.unusedSimpArgs false
set_option linter.unusedVariables false
open Go
open Go.ChangeShapes Go.WideShapes Go.ChangeAt Go.RowKit Go.Joins Go.Deep
set_option linter.unusedVariables false
theorem z5v {H:Type} {enc:TypeId×Value→H} {P:Program} {w:World} {base:Nat} {spare:Nat→Bool} {held:Bool} {A:Type} {t e:TypeId} {k:Nat} {f:A→List Leaf} {Φ:A→Prop} (ht:P.underlying t=some (.slice e)) (hc:P.cellsOf e=k) (hk:Nat.beq k 0=false)
  (hR:z2l enc P w base spare held e k f Φ):z2l enc P w base spare held t 1 (fun l:List A=> [.recs k (l.map f)]) (fun l=>l.length≤9223372036854775807∧∀ a ∈ l,Φ a):=
 z1T fun n c y h=>by
  obtain⟨l,h1,h2,h3⟩:=zgS (f:=f) (Φ:=Φ) ht hc (by rintro rfl; simp at hk) (fun n cs y hcs hy=>hR n cs y hcs hy) h
  exact⟨l,⟨h1,h2⟩,h3⟩
end Go.Sx
namespace Go.Proofs.YtaagjnlkinojcaaGreat
open Go Go.Sx
def AtX (a:AtT):Prop:=(a.1.length≤9223372036854775807∧∀ n ∈ a.1,(Lit.int .i64 n).wf=true)∧(a.2.length≤9223372036854775807∧∀ n ∈ a.2,0≤n∧n<256)
def StX (r:List AtT):Prop:=r.length≤9223372036854775807∧∀ a ∈ r,AtX a
def GnX (g:GnT):Prop:=(Lit.int .i64 g.1).wf=true∧(g.2.1.length≤9223372036854775807∧∀ n ∈ g.2.1,0≤n∧n<256)∧(g.2.2.length≤9223372036854775807∧∀ r ∈ g.2.2,StX r)
theorem AtX.i {a:AtT} (h:AtX a):AtI a:=⟨h.1.1,h.2.1,h.2.2⟩
theorem StX.i {r:List AtT} (h:StX r):StI r:=⟨h.1,fun a ha=>(h.2 a ha).i⟩
theorem GnX.i {g:GnT} (h:GnX g):GnI g:=⟨h.2.1.1,h.2.1.2,⟨h.2.2.1,fun r hr=>(h.2.2.2 r hr).i⟩⟩
end Go.Proofs.YtaagjnlkinojcaaGreat
namespace Go.Proofs.YtaagjnlkinojcaaGreat
set_option linter.unusedSimpArgs false
set_option linter.unusedVariables false
open Go Go.Sx
theorem zdH (b:Bool) (g:List GnT) (s:List AtT) (f1 f2 f3 f4:Bool) (r x:List Int) (hg:g.length≤9223372036854775807) (hs:s.length≤9223372036854775807) (hr:r.length≤9223372036854775807) (hx:x.length≤9223372036854775807) (wg:∀ x ∈ g,GnX x) (ws:∀ a ∈ s,AtX a) (wx:∀ n ∈ x,0≤n∧n<256):
  Ct Tryz.prog 6 [z6W b (g,s) (f1,f2,f3,f4) r,B8 x] [] (lv (.bool true)) [] []:=
 zfw b (g,s) (f1,f2,f3,f4) r x ⟨⟨hg,fun x hx=>(wg x hx).i⟩,⟨hs,fun a ha=>(ws a ha).i⟩⟩ hr hx wx
end Go.Proofs.YtaagjnlkinojcaaGreat

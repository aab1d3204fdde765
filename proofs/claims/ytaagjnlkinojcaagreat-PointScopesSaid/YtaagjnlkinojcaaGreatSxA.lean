/-
  The layer: a value boxed in a region of open order. No condition.
-/
import Derived.Test.YtaagjnlkinojcaaGreatQ23
import Derived.Test.YtaagjnlkinojcaaGreatJ2
import Derived.Test.YtaagjnlkinojcaaGreatSxE
import Derived.Test.YtaagjnlkinojcaaGreatN1
import Derived.Test.YtaagjnlkinojcaaGreatSxK
namespace Go.Proofs.YtaagjnlkinojcaaGreat
set_option linter.unusedSimpArgs false
set_option linter.unusedVariables false
open Go.Sx
set_option maxRecDepth 10000
theorem z3a {α:Type} (z:α) (e:Int) (l:List Int) (p:Nat) (t:z0g) (rd:List Int→α×Nat×Int) (hp:p≤l.length):p≤(z1D z e l p t rd).2.1∧(z1D z e l p t rd).2.1≤l.length:=by
 unfold z1D
 split
 ·exact z3n _ _ _ _ _ hp
 ·exact⟨Nat.le_refl _,hp⟩
theorem zkB (x:List Int):(z2b x).2.1≤x.length:=by
 unfold z2b
 dsimp only
 split
 ·split
  ·exact Nat.le_refl _
  ·exact Nat.le_refl _
 ·exact Nat.le_refl _
theorem ze3 {x:List Int} (hw:WfB x) (hl:x.length≤12000000):∀(f p:Nat) (acc r:List GnT) (s:Nat),p≤x.length→(∀ g ∈ acc,GnB g)→acc.length≤10000→z2O x f p acc=(r,s,0)→(∀ g ∈ r,GnB g)∧r.length≤10000
 | 0,p,acc,r,s,_,_,_,h=>by
   rw[z2O] at h
   simp only[Prod.mk.injEq] at h
   obtain⟨rfl,_⟩:=h
   simp
 | f+1,p,acc,r,s,hp,ha,hl2,h=>by
   rw[z2O] at h
   by_cases h1:p<x.length
   ·rw[if_pos h1] at h
    by_cases h2:acc.length=10000
    ·rw[if_pos h2] at h; simp at h
    ·rw[if_neg h2] at h
     have hle:=z5B x p hp
     have hB:(z1u x p).2.2=0→GnB (z1u x p).1:=fun h0=>by
      unfold z1u at h0 ⊢
      dsimp only at h0 ⊢
      split at h0
      ·rename_i e1
       rw[if_pos e1]
       split at h0
       ·simp at h0
       ·rename_i e2
        rw[if_neg e2]
        split at h0
        ·simp at h0
        ·rename_i e3
         rw[if_neg e3]
         dsimp only at h0 ⊢
         exact zpL (zaQ hw _ _) (by simp; omega) (Prod.ext rfl h0)
      ·rename_i e1
       exact absurd h0 e1
     generalize z1u x p=A at*
     obtain⟨a,q,e⟩:=A
     dsimp only at*
     by_cases he:e=0
     ·subst he
      rw[if_pos rfl] at h
      exact ze3 hw hl f q (acc++ [a]) r s hle.2 (fun g hg=>by
       rcases List.mem_append.1 hg with h3 | h3
       ·exact ha g h3
       ·rw[List.mem_singleton.1 h3]; exact hB rfl) (by simp; omega) h
     ·rw[if_neg he] at h
      simp only[Prod.mk.injEq] at h
      exact absurd h.2.2 he
   ·rw[if_neg h1] at h
    simp only[Prod.mk.injEq] at h
    obtain⟨rfl,_⟩:=h
    exact⟨ha,hl2⟩
theorem zkC {x:List Int} (hw:WfB x) (hl:x.length≤12000000) (h:(z0Q x).2.2=0):(∀ g ∈ (z0Q x).1,GnB g)∧(z0Q x).1.length≤10000:=by
 unfold z0Q at h ⊢
 split at h
 ·simp at h
 ·rename_i h0
  rw[if_neg h0]
  exact ze3 hw hl _ 0 [] _ (z2O x (x.length+1) 0 []).2.1 (Nat.zero_le _) (by simp) (by simp) (Prod.ext rfl (Prod.ext rfl h))
theorem z9f {x:List Int} (h:(z0Q x).2.2=0):z2n x=z0Q x:=by
 unfold z2n z0M
 rw[if_pos h]
theorem zcC {x:List Int} (h:¬ (z0Q x).2.2=0):z2n x=([],0,(z0Q x).2.2):=by
 unfold z2n z0M
 rw[if_neg h]
theorem zkD {x:List Int} (hw:WfB x) (hl:x.length≤12000000):(∀ g ∈ (z2n x).1,GnB g)∧(z2n x).1.length≤10000:=by
 by_cases h:(z0Q x).2.2=0
 ·rw[z9f h]
  exact zkC hw hl h
 ·rw[zcC h]
  simp
theorem zpr {x:List Int} (hw:WfB x) (hl:x.length≤11880000) (h:(z3K x).2.2=0):(z3K x).1.length≤16000000∧∀ a ∈ (z3K x).1,AtB a:=by
 unfold z3K at h ⊢
 dsimp only at h ⊢
 have hww:=z1B (ofT 17) x (by decide) hw
 have hwl:=z0t (ofT 17) x
 generalize z04 (ofT 17) x=W at*
 obtain⟨h1,h2⟩:=z6g (l:=W) (p:=0) (q:=(z1m W 0).2.1) (r:=(z1m W 0).1) hww (Prod.ext rfl (Prod.ext rfl h))
 rw[List.drop_zero] at h2
 have hlen:=congrArg List.length h2
 rw[List.length_append] at hlen
 exact zdN h1 (fun z hz=>hww z (by rw[h2]; exact List.mem_append_left _ hz)) (by omega)
theorem z48 {α:Type} (z:α) (l:List Int) (p:Nat) (t:z0g) (rd:List Int→α×Nat×Int):(z0l z l p t rd).1=z∨∃ x:List Int,x.length≤l.length∧(∀ y ∈ x,y ∈ l)∧(rd x).2.2=0∧(z0l z l p t rd).1=(rd x).1:=by
 have hm:=z0H l p t
 unfold z0l
 dsimp only
 split
 ·split
  ·split
   ·rename_i h
    split
    ·exact .inl rfl
    ·exact .inr ⟨_,hm.1,hm.2,h,rfl⟩
   ·exact .inl rfl
  ·exact .inl rfl
 ·exact .inl rfl
theorem z9O {α:Type} (z:α) (e:Int) (l:List Int) (p:Nat) (t:z0g) (rd:List Int→α×Nat×Int):(z1D z e l p t rd).1=z∨∃ x:List Int,x.length≤l.length∧(∀ y ∈ x,y ∈ l)∧(rd x).2.2=0∧(z1D z e l p t rd).1=(rd x).1:=by
 unfold z1D
 split
 ·exact z48 _ _ _ _ _
 ·exact .inl rfl
theorem zgy {x:List Int} (hw:WfB x) (hl:x.length≤11760000):z4M (z3D x).1:=by
 unfold z3D
 dsimp only
 split
 ·split
  ·rcases z48 [] x 0 (2,0,true) z2n with h |⟨y,h1,h2,h3,h⟩
   ·rw[h]
    exact⟨by simp,by simp,by simp,by simp⟩
   ·rw[h]
    have:=zkD (x:=y) (fun z hz=>hw z (h2 z hz)) (by omega)
    exact⟨by dsimp only; omega,this.1,by simp,by simp⟩
  ·split
   ·rcases z48 [] x 0 (2,1,true) z3K with h |⟨y,h1,h2,h3,h⟩
    ·rw[h]
     exact⟨by simp,by simp,by simp,by simp⟩
    ·rw[h]
     have:=zpr (x:=y) (fun z hz=>hw z (h2 z hz)) (by omega) h3
     exact⟨by simp,by simp,this.1,this.2⟩
   ·exact⟨by simp,by simp,by simp,by simp⟩
 ·trivial
theorem zcD (x:List Int):(z2b x).1.length≤32:=by
 unfold z2b
 dsimp only
 split
 ·split
  ·exact z9b _ _
  ·simp
 ·simp
theorem z6o {α:Type} (z:α) (l:List Int) (p:Nat) (t:z0g) {f g:List Int→α×Nat×Int} (h:∀ x,(f x).2.2=(g x).2.2∧((g x).2.2=0→f x=g x)):z0l z l p t f=z0l z l p t g:=by
 unfold z0l
 dsimp only
 split
 ·split
  ·obtain⟨h1,h2⟩:=h (z0m l p t).1
   by_cases h0:(g (z0m l p t).1).2.2=0
   ·rw[h2 h0]
   ·rw[if_neg h0,if_neg (by rw[h1]; exact h0),h1]
  ·rfl
 ·rfl
theorem zdC (x:List Int):(z2n x).2.2=(z0Q x).2.2∧((z0Q x).2.2=0→z2n x=z0Q x):=by
 refine⟨?_,z9f⟩
 by_cases h:(z0Q x).2.2=0
 ·rw[z9f h]
 ·rw[zcC h]
theorem z9P (x:List Int):(z3D x).2.2=(z3L x).2.2∧((z3L x).2.2=0→z3D x=z3L x):=by
 unfold z3D z3L
 rw[z6o [] x 0 (2,0,true) zdC]
 dsimp only
 by_cases h1:(z0a x 0).2.2=0
 ·rw[if_pos h1,if_pos h1]
  by_cases h2:isH x 0 (2,0,true)=true
  ·rw[if_pos h2,if_pos h2]
   by_cases h3:(z0l [] x 0 (2,0,true) z0Q).2.2=0
   ·rw[if_pos h3,h3]
    exact⟨rfl,fun _=>rfl⟩
   ·rw[if_neg h3]
    exact⟨rfl,fun h=>absurd h h3⟩
  ·rw[if_neg h2,if_neg h2]
   by_cases h4:isH x 0 (2,1,true)=true
   ·rw[if_pos h4,if_pos h4]
    by_cases h3:(z0l [] x 0 (2,1,true) z3K).2.2=0
    ·rw[if_pos h3,h3]
     exact⟨rfl,fun _=>rfl⟩
    ·rw[if_neg h3]
     exact⟨rfl,fun h=>absurd h h3⟩
   ·rw[if_neg h4,if_neg h4]
    exact⟨rfl,fun h=>absurd h (by decide)⟩
 ·rw[if_neg h1,if_neg h1]
  exact⟨rfl,fun h=>absurd h h1⟩
def z1C (l:List Int) (p:Nat) (t:z0g):List Int×Nat×Bool×Int:=
 if isH l p t=true then(if(z0m l p t).2.2=0 then((z0m l p t).1,(z0m l p t).2.1,true,0) else([],p,false,(z0m l p t).2.2)) else([],p,false,0)
theorem zgz {l:List Int} {i:Nat} (a:Int) (h:i<l.length):z30 a (l.drop i)=(decide (a<l.getD i 0)&&decide (l.getD i 0≤8)&&z30 (l.getD i 0) (l.drop (i+1))):=by
 rw[List.drop_eq_getElem_cons h,z30,List.getD_eq_getElem?_getD,List.getElem?_eq_getElem h]
 rfl
set_option maxHeartbeats 4000000 in
theorem zcE (l:List Int) (hl:l.length≤16000000):Ct Tryz.prog 87 [I64 l] [] (lv (.bool (z0Z l))) [] []:=by
 refine z00 Tryz.func87 rfl rfl rfl rfl rfl (fun E hn hb=>?_)
 repeat refine nx ?_
 refine z09 (St.le_of (l:= [(0,I64 l),(3,lv (.int .i64 ((0:Nat):Int)))]) (h:= []) (by refine⟨?_,?_⟩<;>(repeat' (first | exact trivial | exact rfl | refine⟨?_,?_⟩))<;>first | exact rfl |(simp; done) | skip)) ?_
 refine z0h (ι:= {i:Nat//i≤l.length∧(∃ a:Int,(if i=0 then a= -1 else a=l.getD (i -1) 0)∧ -1≤a∧z30 a (l.drop i)=z0Z l)}) (fun i=>St.of [(0,I64 l),(3,lv (.int .i64 (i.1:Int)))] []) (fun i=>l.length -i.1) (fun i=>?_) ⟨0,Nat.zero_le _,-1,rfl,by decide,by rw[List.drop_zero]; rfl⟩
 obtain⟨i,hi,a,ha,ha1,hr⟩:=i
 dsimp only
 by_cases hi2:i<l.length
 ·have hq:l.getD (i:Int).toNat 0=l.getD i 0:=rfl
  rw[zgz a hi2] at hr
  generalize hx:l.getD i 0=x at*
  by_cases h1:x<0
  ·rw[decide_eq_false (by omega:¬ a<x),Bool.false_and,Bool.false_and] at hr
   rw[←hr]
   repeat (first | refine nx ?_ | rw[hq])
   exact rt1 []
  ·by_cases h2:8<x
   ·rw[decide_eq_false (by omega:¬ x≤8),Bool.and_false,Bool.false_and] at hr
    rw[←hr]
    repeat (first | refine nx ?_ | rw[hq])
    exact rt1 []
   ·by_cases h0:i=0
    ·subst h0
     rw[if_pos rfl] at ha
     subst ha
     rw[decide_eq_true (by omega: -1<x),decide_eq_true (by omega:x≤8),Bool.true_and,Bool.true_and] at hr
     repeat (first | refine nx ?_ | rw[hq])
     refine z07 ⟨1,hi2,x,by rw[if_neg (by decide)]; exact hx.symm,by omega,hr⟩ (by dsimp only; omega) (St.le_of ⟨⟨rfl,rfl⟩,trivial⟩)
    ·rw[if_neg h0] at ha
     have hq1:l.getD ((i:Int) -1).toNat 0=a:=by rw[ha]; congr 1; omega
     by_cases h3:x≤a
     ·rw[decide_eq_false (by omega:¬ a<x),Bool.false_and,Bool.false_and] at hr
      rw[←hr]
      repeat (first | refine nx ?_ | rw[hq] | rw[hq1])
      exact rt1 []
     ·rw[decide_eq_true (by omega:a<x),decide_eq_true (by omega:x≤8),Bool.true_and,Bool.true_and] at hr
      repeat (first | refine nx ?_ | rw[hq] | rw[hq1])
      refine z07 ⟨i+1,hi2,x,by rw[if_neg (by omega)]; exact hx.symm,by omega,hr⟩ (by dsimp only; omega) (St.le_of ⟨⟨rfl,rfl⟩,trivial⟩)
 ·obtain rfl:i=l.length:=by omega
  rw[List.drop_length] at hr
  rw[←hr]
  repeat refine nx ?_
  exact rt1 []
theorem zkE (g:List GnT) (hg:∀ x ∈ g,GnB x) (hl:g.length≤16000000):Ct Tryz.prog 99 [gnV g] [] (lv (.bool (z1Z g))) [] []:=by
 have hml:(gnR g).length=g.length:=List.length_map ..
 unfold z1Z
 refine z00 Tryz.func99 rfl rfl rfl rfl rfl (fun E hn hb=>?_)
 repeat refine nx ?_
 refine z09 (St.le_of (l:= [(0,gnV g),(3,lv (.int .i64 ((0:Nat):Int)))]) (h:= []) (by refine⟨?_,?_⟩<;>(repeat' (first | exact trivial | exact rfl | refine⟨?_,?_⟩))<;>first | exact rfl |(simp; done) | skip)) ?_
 refine z0h (ι:= {i:Nat//i≤g.length∧∀ j,j<i→z0F (g.getD j gn0)=true}) (fun i=>St.of [(0,gnV g),(3,lv (.int .i64 (i.1:Int)))] []) (fun i=>g.length -i.1) (fun i=>?_) ⟨0,Nat.zero_le _,fun j hj=>by omega⟩
 obtain⟨i,hi,hu⟩:=i
 dsimp only
 by_cases hi2:i<g.length
 ·have hq:g.getD (i:Int).toNat default=g.getD i gn0:=rfl
  have hbr:=hg _ (z1S (d:=gn0) hi2)
  have hw:=z7y _ hbr
  by_cases ha:z0F (g.getD i gn0)=true
  ·rw[ha] at hw
   generalize hA:g.getD i gn0=r at*
   obtain⟨k,b,n⟩:=r
   repeat (first | refine nx ?_ | rw[hq])
   refine z07 ⟨i+1,hi2,fun j hj=>by
    by_cases e:j=i
    ·subst e; rw[hA]; exact ha
    ·exact hu j (by omega)⟩ (by dsimp only; omega) (St.le_of ⟨⟨rfl,rfl⟩,trivial⟩)
  ·rw[z80 hi2 ha,Bool.and_false]
   rw[Bool.eq_false_iff.2 ha] at hw
   generalize hA:g.getD i gn0=r at*
   obtain⟨k,b,n⟩:=r
   repeat (first | refine nx ?_ | rw[hq])
   exact rt1 []
 ·obtain rfl:i=g.length:=by omega
  rw[z9Y hu,Bool.and_true]
  repeat refine nx ?_
  refine rt2 [] (congrArg (fun x=>lv (.bool x)) ?_) trivial
  rw[hml,Bool.eq_iff_iff]
  simp
  try omega
set_option maxHeartbeats 4000000 in
theorem z9g (l:List Int) (p:Nat) (n:Int) (b:Bool) (hp:p≤l.length) (hl:l.length≤12000000) (hw:WfB l):Ct Tryz.prog 60 [B8 l,lv (.int .i64 (p:Int)),lv (.int .i64 n),lv (.bool b)] [] (.tup [B8 (z1C l p (2,n,b)).1,lv (.int .i64 ((z1C l p (2,n,b)).2.1:Int)),lv (.bool (z1C l p (2,n,b)).2.2.1),lv (.int .i64 (z1C l p (2,n,b)).2.2.2)]) [] []:=by
 have hrd:=z3o l p hp (by omega) hw
 have hop:=z3p l p (2,n,b) hp (by omega) hw
 have hat:=z3k n b
 unfold z1C isH
 generalize hR:z0a l p=R at*
 generalize z0m l p (2,n,b)=X at*
 obtain⟨x,q,e⟩:=X
 obtain⟨⟨⟨c,k,m⟩,z⟩,r,er⟩:=R
 dsimp only at*
 by_cases h1:er=0
 ·subst h1
  rw[decide_eq_true (rfl:(0:Int)=0),Bool.true_and]
  by_cases h2:(c,k,m)=((2,n,b):z0g)
  ·rw[decide_eq_true h2,if_pos rfl]
   simp only[Prod.mk.injEq] at h2
   obtain⟨rfl,rfl,rfl⟩:=h2
   by_cases he:e=0
   ·subst he
    rw[if_pos rfl]
    refine z00 Tryz.func60 rfl rfl rfl rfl rfl (fun E hn hb=>?_)
    repeat refine nx ?_
    refine z06 rfl (by simp) (fun hc=>?_) (fun hc=>?_)
    ·skip
     exfalso
     change (z16 (z0L (2,k,m)) (z0L (2,k,m))!=true)=true at hc
     rw[eqT,decide_eq_true rfl] at hc
     exact absurd hc (by decide)
    ·repeat refine nx ?_
     exact rt1 []
   ·rw[if_neg he]
    refine z00 Tryz.func60 rfl rfl rfl rfl rfl (fun E hn hb=>?_)
    repeat refine nx ?_
    refine z06 rfl (by simp) (fun hc=>?_) (fun hc=>?_)
    ·skip
     exfalso
     change (z16 (z0L (2,k,m)) (z0L (2,k,m))!=true)=true at hc
     rw[eqT,decide_eq_true rfl] at hc
     exact absurd hc (by decide)
    ·repeat refine nx ?_
     exact rtU []
  ·rw[decide_eq_false h2,if_neg (by decide)]
   refine z00 Tryz.func60 rfl rfl rfl rfl rfl (fun E hn hb=>?_)
   repeat refine nx ?_
   refine z06 rfl (by simp) (fun hc=>?_) (fun hc=>?_)
   ·repeat refine nx ?_
    exact rtU []
   ·exfalso
    change (z16 (z0L (c,k,m)) (z0L (2,n,b))!=true)=false at hc
    rw[eqT,decide_eq_false h2] at hc
    exact absurd hc (by decide)
 ·rw[decide_eq_false h1,Bool.false_and,if_neg (by decide)]
  refine z00 Tryz.func60 rfl rfl rfl rfl rfl (fun E hn hb=>?_)
  repeat refine nx ?_
  exact rtU []
abbrev rwA (t:Bool) (w:WhT):Av:= .agg [.lf (.v (.bool t)),.lf (.recs 3 (gnR w.1)),.lf (z2g w.2)]
def whD:Option WhT→WhT
 | none=>([],[])
 | some w=>w
set_option maxHeartbeats 4000000 in
theorem zgA (t:Bool) (w:WhT) (h:WhB w):Ct Tryz.prog 74 [rwA t w] [] (lv (.bool (z2Q w))) [] []:=by
 obtain⟨g,s⟩:=w
 have hg:=zkE g h.g h.l
 have hs:=zcR s h.a h.s
 have hml:(gnR g).length=g.length:=List.length_map ..
 have hms:(s.map atL).length=s.length:=List.length_map ..
 unfold z2Q
 dsimp only
 by_cases h0:s= []
 ·subst h0
  rw[if_neg (by decide)]
  generalize z1Z g=G at*
  refine z00 Tryz.func74 rfl rfl rfl rfl rfl (fun E hn hb=>?_)
  repeat refine nx ?_
  exact rt1 []
 ·have hpos:0<s.length:=List.length_pos_iff.2 h0
  rw[if_pos hpos]
  generalize z0D s=S at*
  by_cases hg0:g= []
  ·subst hg0
   refine z00 Tryz.func74 rfl rfl rfl rfl rfl (fun E hn hb=>?_)
   repeat refine nx ?_
   refine rt2 [] (congrArg (fun x=>lv (.bool x)) ?_) trivial
   cases S<;>rfl
  ·have hgp:0<g.length:=List.length_pos_iff.2 hg0
   rw[decide_eq_false (by omega:¬ g.length=0),Bool.false_and]
   refine z00 Tryz.func74 rfl rfl rfl rfl rfl (fun E hn hb=>?_)
   repeat refine nx ?_
   refine rt2 [] (congrArg (fun x=>lv (.bool x)) ?_) trivial
   rw[show(((gnR (g,s).1).length:Int)==0)=false by rw[hml,beq_eq_false_iff_ne]; omega]
   rfl
theorem ziB (t:Bool) (w:WhT) (h:WhB w):Ct Tryz.prog 66 [rwA t w,rwA t w] [] (lv (.bool true)) [] []:=by
 obtain⟨g,s⟩:=w
 have h1:=zh7 g h.l h.g
 have h2:=zbq [s] ⟨Nat.le_of_ble_eq_true rfl,fun r hr=>by rw[List.mem_singleton.1 hr]; exact⟨h.s,h.a⟩⟩
 cases t
 ·refine z00 Tryz.func66 rfl rfl rfl rfl rfl (fun E hn hb=>?_)
  repeat (first | refine nx ?_ | refine lgE hn ?_)
  exact rt1 []
 ·refine z00 Tryz.func66 rfl rfl rfl rfl rfl (fun E hn hb=>?_)
  repeat (first | refine nx ?_ | refine lgE hn ?_)
  exact rt1 []
theorem zfo (o:Option WhT) (h:z4M o):Ct Tryz.prog 23 [wpV o] [] (rwA o.isSome (whD o)) [] []:=by
 rcases o with _ |⟨g,s⟩
 ·refine z00 Tryz.func23 rfl rfl rfl rfl rfl (fun E hn hb=>?_)
  repeat refine nx ?_
  refine rtU [] (hu:=?_)
  exact⟨.inl rfl,.inr ⟨rfl,.inr ⟨_,rfl⟩⟩,.inr ⟨rfl,.inr ⟨_,rfl⟩⟩,trivial⟩
 ·have ha:=zjc g h.l h.g
  refine z00 Tryz.func23 rfl rfl rfl rfl rfl (fun E hn hb=>?_)
  repeat refine nx ?_
  refine z93 (fun a w h=>SR.cell_nilS 2 67 2 901 rfl rfl rfl rfl rfl h) ?_
  refine z09 (St.le_of (l:= [(0,wpV (some (g,s))),(3,.c (.ptr 67 0)),(2,.c (.ptr 66 0)),(4,lv (.int .i64 ((0:Nat):Int)))]) (h:= [(66,.cells [.lf (.v (.bool false)),.lf (.v (.slice none 0 0)),.lf (.v (.slice none 0 0))]),(67,.cells [.lf (.v (.bool true)),.lf (.recs 3 (gnR g)),.own 901 2 0 ((s.take 0).map atL).length]),(901,.row (.recs 2 ((s.take 0).map atL)))]) (by refine⟨?_,?_⟩<;>(repeat' (first | exact trivial | exact rfl | refine⟨?_,?_⟩))<;>first | exact rfl |(simp; done) | skip)) ?_
  refine z0h (ι:= {j:Nat//j≤s.length}) (fun j=>St.of [(0,wpV (some (g,s))),(3,.c (.ptr 67 0)),(2,.c (.ptr 66 0)),(4,lv (.int .i64 (j.1:Int)))] [(66,.cells [.lf (.v (.bool false)),.lf (.v (.slice none 0 0)),.lf (.v (.slice none 0 0))]),(67,.cells [.lf (.v (.bool true)),.lf (.recs 3 (gnR g)),.own 901 2 0 ((s.take j.1).map atL).length]),(901,.row (.recs 2 ((s.take j.1).map atL)))]) (fun j=>s.length -j.1) (fun j=>?_) ⟨0,Nat.zero_le _⟩
  obtain⟨j,hj⟩:=j
  dsimp only
  have hms:(s.map atL).length=s.length:=List.length_map ..
  have hrt:((s.take j).map atL).length=j:=by rw[List.length_map,List.length_take]; omega
  have hsl:=h.s
  dsimp only at hsl
  by_cases hj2:j<s.length
  ·have hq2:s.getD (j:Int).toNat default=s.getD j atD:=rfl
   have hsr:=z2j (d:=atD) hj2
   generalize hB:s.getD j atD=a at*
   obtain⟨o,v⟩:=a
   repeat (first | refine nxw ?_)
   refine duF [107] [(20,107),(20,901),(22,67)] ?_
   repeat (first | refine nx ?_ | rw[hq2])
   refine z4i (fun a w h=>SR.mv 107 901 rfl rfl rfl rfl rfl h) ?_
   refine z07 ⟨j+1,by omega⟩ (by dsimp only; omega) (St.le_of ⟨⟨rfl,rfl,rfl,rfl⟩,⟨rfl,?_,?_⟩⟩)
   ·dsimp only; rw[hsr,z4U]; rfl
   ·dsimp only; rw[hsr,z4U]; rfl
  ·obtain rfl:j=s.length:=by omega
   rw[List.take_length]
   repeat refine nx ?_
   refine zpG 901 66 ?_
   exact rt1 []
end Go.Proofs.YtaagjnlkinojcaaGreat
namespace Go.Sx
open Go
set_option linter.unusedVariables false
set_option linter.unusedSimpArgs false
section
variable {P:Program} {E:Env} {ops:Array Oper} {σ:St}
theorem zrg {ns b own:List Nat} {bs:List (List Nat×List Nat)} {o:Oper} {l:List Oper} {K:St→Prop} {t:TypeId} {x:Operand} {ps:List Prop} {y:Av} {d:Nat} {cs:List Cell} (hop:o.op= .box t x) (hg:o.guard=none) (hd:o.dst=some d) (hE:z0d E.n (some d)=true) (hx:ox ⟨σ.tm,fgt b σ.hp⟩ x=(ps,y)) (hp:z03 ps) (hcs:z3B (z29 y) some=some cs) (hu:z3C y=false)
  (hgone:σ.hp (nk (some d) 0)= .gone) (hb:z0b (nk (some d) 0) b=false) (hns:z0b (nk (some d) 0) ns=true) (ho:z0b (nk (some d) 0) own=true)
  (hk:z0c P E ops ns bs l ((σ.seth (nk (some d) 0) (.cells cs)).put (some d) (.c (.ptr (nk (some d) 0) 0))) K):z0c P E ops ns ((b,own)::bs) (o::l) σ K:=by
 have eu:∀ hp:Nat→Blk,z1a hp [(nk (some d) 0,.cells cs)]=fun i=>if i=nk (some d) 0 then .cells cs else hp i:=fun hp=>z5R hp _ _
 refine z5z (x:= .c (.ptr (nk (some d) 0) 0)) (u:= [(nk (some d) 0,.cells cs)]) ?_ (zfn ho (by simp)) ?_
 ·intro τ hl β F a w hS hn K Q hK
  rw[show Region.wanted o (yielded ops a.tmps)=true by simp[Region.wanted,hg],if_pos rfl]
  have hgτ:τ.hp (nk (some d) 0)= .gone:=by rw[hl.hp _ hb]; exact hgone
  have hnb:E.nb≤nk (some d) 0:=by
   have:=hS.nbl
   simp only[nk,Option.getD_some,Nat.mul_zero,Nat.add_zero]
   omega
  have h1:=hn d hd hns
  have hcut:SRb E β F ⟨τ.tm,fgt b σ.hp⟩ a w:=hS.cut hl
  have x1:ox ⟨τ.tm,fgt b σ.hp⟩ x=ox ⟨σ.tm,fgt b σ.hp⟩ x:=hl.ox x (by rw[hop]; simp[Op.operands])
  have hv:=oxR hcut x
  rw[x1,hx] at hv
  obtain⟨k1,k2⟩:=z6Q (hv hp) (z4G hcs) (by intro h; subst h; simp[z3C] at hu)
  obtain⟨β2,hS2,h4,h5⟩:=ze2 (t:=t) hS h1 hnb hgτ k1 k2
  unfold Oper.wp
  have hrun:(execOp a.eval o).run P w= .ok (.value (.pointer (some ⟨w.heap.size,0,none⟩))) (w.alloc (.cells (a.eval x).cells t)):=by
   simp[execOp,hop,Instr.box,newVar,newRow]
  rw[hrun]
  refine hK _ _ β2 F ?_ fun k hk=>h5 k fun e=>?_
  ·rw[hd,eu]
   exact hS2.put (.c (.ptr _ _ _ h4)) (z0x hE)
  ·rw[e] at hk
   simp[z0R] at hk
 ·rw[eu,hd]
  exact hk
variable {nt:Nat} {ns b own:List Nat} {bs:List (List Nat×List Nat)} {o:Oper} {l:List Oper} {K:St→Prop}
theorem zxd {t:TypeId} {x:Operand} {ps:List Prop} {y:Av} {d:Nat} {cs:List Cell} (hn:E.n=nt) (hk:z0c P E ops ns bs l ((σ.seth (nk (some d) 0) (.cells cs)).put (some d) (.c (.ptr (nk (some d) 0) 0))) K) (hop:o.op= .box t x:=by exact rfl) (hg:o.guard=none:=by exact rfl) (hd:o.dst=some d:=by exact rfl) (hd0:z0d nt (some d)=true:=by exact rfl) (hx:ox ⟨σ.tm,fgt b σ.hp⟩ x=(ps,y):=by exact rfl) (hcs:z3B (z29 y) some=some cs:=by exact rfl) (hu:z3C y=false:=by exact rfl)
  (hgone:σ.hp (nk (some d) 0)= .gone:=by exact rfl) (hb:z0b (nk (some d) 0) b=false:=by exact rfl) (hns:z0b (nk (some d) 0) ns=true:=by exact rfl) (ho:z0b (nk (some d) 0) own=true:=by exact rfl) (hp:z03 ps:=by first | trivial |(simp; done)):z0c P E ops ns ((b,own)::bs) (o::l) σ K:=
 zrg hop hg hd (by rw[hn]; exact hd0) hx hp hcs hu hgone hb hns ho hk
end
section
variable {P:Program} {E:Env} {ops:Array Oper} {Q:Exit→Act→World→Prop} {rest:List Oper} {o:Oper} {σ:St}
end
end Go.Sx

/-
  Chapter 16: places, names, truths written by the program into a sheet. The conditions: right ones, rows that a machine can hold.
-/
import Derived.Test.YtaagjnlkinojcaaGreatQ20
import Derived.Test.YtaagjnlkinojcaaGreatN8
import Derived.Test.YtaagjnlkinojcaaGreatSxF
import Derived.Test.YtaagjnlkinojcaaGreatQ24
import Derived.Test.YtaagjnlkinojcaaGreatQ34
namespace Go.Proofs.YtaagjnlkinojcaaGreat
set_option linter.unusedSimpArgs false
set_option linter.unusedVariables false
open Go Go.Sx
set_option maxRecDepth 10000
def tnW (k:Int) (l:List GnT):List Int:=if l.length=0 then [] else z05 (2,k,true) (l.flatMap z0l)
def z2o (w:WhT):List Int:=if 0<w.2.length then z05 (2,1,true) (w.2.flatMap atW) else z05 (2,0,true) (w.1.flatMap z0l)
def z18:Option WhT→List Int
 | none=> []
 | some w=>z05 (2,0,true) (z2o w)
def z1V (k:Int) (l:List Int):List Int:=if l.length=0 then [] else z05 (2,k,false) (flC l)
def z2p (k:Int) (x:Bool):List Int:=if x=true then z05 (2,k,false) [255] else []
def z38 (p:PtT):List Int:=z18 p.1++(z1V 1 p.2.1++tnW 2 p.2.2)
def z0o (p:PtT):List Int:=z05 (ofT 16) (z38 p)
def NoT (D:List Int) (t:z0h):Prop:=D= []∨∃(u:z0h) (b C:List Int),D=z05 u b++C∧z0q u=true∧b.length≤16777216∧u≠t
theorem zaH (l:List Int) (t:z0h):isH l l.length t=false:=by
 unfold isH
 by_cases h:(z0d l l.length).2.2=0
 ·have h1:=z86 l l.length h
  have h2:=(z1k l l.length (Nat.le_refl _)).2
  omega
 ·rw[decide_eq_false h,Bool.false_and]
theorem zlm {A D:List Int} {t:z0h} (h:NoT D t):isH (A++D) A.length t=false:=by
 rcases h with rfl |⟨u,b,C,rfl,h1,h2,h3⟩
 ·rw[List.append_nil]; exact zaH A t
 ·rw[z7J A b C u t h1 h2,decide_eq_false h3]
theorem zjP {α:Type} {z:α} {l:List Int} {p:Nat} {t:z0h} {rd:List Int→α×Nat×Int} (h:isH l p t=false):z0i z l p t rd=(z,p,0):=by
 unfold z0i
 rw[if_neg (by rw[h]; exact Bool.false_ne_true)]
theorem z8e {α:Type} {z v:α} (A b D:List Int) {t:z0h} {rd:List Int→α×Nat×Int} (ht:z0q t=true) (hb:b.length≤16777216) (hr:rd b=(v,b.length,0)):z0i z (A++(z05 t b++D)) A.length t rd=(v,A.length+(z05 t b).length,0):=by
 unfold z0i
 rw[z7J A b D t t ht hb,decide_eq_true rfl,if_pos rfl,z3y A b D t ht hb]
 dsimp only
 rw[if_pos rfl,hr]
 dsimp only
 rw[if_pos rfl,if_neg (Nat.lt_irrefl _)]
theorem z8f {α:Type} {z v:α} (A W D:List Int) {t:z0h} {rd:List Int→α×Nat×Int} (h:(W= []∧v=z∧NoT D t)∨∃ b,W=z05 t b∧z0q t=true∧b.length≤16777216∧rd b=(v,b.length,0)):
  z0i z (A++(W++D)) A.length t rd=(v,A.length+W.length,0):=by
 rcases h with ⟨rfl,rfl,h⟩ |⟨b,rfl,h1,h2,h3⟩
 ·rw[List.nil_append,zjP (zlm h)]; rfl
 ·exact z8e A b D h1 h2 h3
theorem z3Z {α:Type} {z v:α} {l:List Int} {p q:Nat} {t:z0h} {rd:List Int→α×Nat×Int} (hw:WfB l) (h:z0i z l p t rd=(v,q,0)):
  (v=z∧q=p)∨∃ b n,rd b=(v,n,0)∧b.length≤n∧l.drop p=z05 t b++l.drop q∧z0q t=true∧WfB b:=by
 have hm:=z0H l p t
 unfold z0i at h
 by_cases h1:isH l p t=true
 ·rw[if_pos h1] at h
  generalize hX:z0r l p t=X at*
  obtain⟨b,s,e⟩:=X
  dsimp only at*
  by_cases he:e=0
  ·subst he
   rw[if_pos rfl] at h
   obtain⟨b1,b2⟩:=z2Y hw hX
   generalize hR:rd b=R at*
   obtain⟨x,n,f⟩:=R
   dsimp only at*
   by_cases hf:f=0
   ·subst hf
    rw[if_pos rfl] at h
    by_cases hn:n<b.length
    ·rw[if_pos hn] at h; simp at h
    ·rw[if_neg hn] at h
     simp only[Prod.mk.injEq] at h
     obtain⟨rfl,rfl,_⟩:=h
     exact .inr ⟨b,n,hR,by omega,b2,b1,fun y hy=>hw y (hm.2 y hy)⟩
   ·rw[if_neg hf] at h
    simp only[Prod.mk.injEq] at h
    exact absurd h.2.2 hf
  ·rw[if_neg he] at h
   simp only[Prod.mk.injEq] at h
   exact absurd h.2.2 he
 ·rw[if_neg h1] at h
  simp only[Prod.mk.injEq] at h
  exact .inl ⟨h.1.symm,h.2.1.symm⟩
theorem zjQ {t:z0h} {c d r:List Int} (ht:z0q t=true) (hc:c.length≤16777216) (hd:d.length≤16777216) (h:z05 t c=z05 t d++r):c=d:=by
 have h1:=z3y [] c [] t ht hc
 have h2:=z3y [] d r t ht hd
 rw[List.append_nil] at h1
 rw[←h] at h2
 rw[h1] at h2
 exact(Prod.mk.inj h2).1
theorem z1x (t:z0h) (b:List Int):b.length≤(z05 t b).length:=by
 unfold z05
 rw[List.length_append]
 omega
theorem zjR {r:List AtT} (h:z0C r=true) (hb:∀ a ∈ r,AtH a):z3s (r.flatMap atW)=(r,(r.flatMap atW).length,0):=by
 have h1:=zd9 [] [] h hb
 rw[List.append_nil,List.nil_append,List.length_nil] at h1
 unfold z3s
 rw[show z05 (ofT 17) (r.flatMap atW)=z0g r from rfl,h1]
theorem zhR {c:List Int} {r:List AtT} {n:Nat} (hw:WfB c) (hl:c.length≤16000000) (h:z3s c=(r,n,0)):z0C r=true∧c=r.flatMap atW∧n=c.length:=by
 unfold z3s at h
 generalize hX:z2e (z05 (ofT 17) c) 0=X at*
 obtain⟨r1,q,e⟩:=X
 simp only[Prod.mk.injEq] at h
 obtain⟨rfl,rfl,rfl⟩:=h
 obtain⟨b1,b2⟩:=z6m (zel _ _ (by decide) hw) hX
 rw[List.drop_zero] at b2
 have hsl:(r1.flatMap atW).length≤(z05 (ofT 17) (r1.flatMap atW)).length:=z1x _ _
 have e2:=congrArg List.length b2
 have h3:=z0s (ofT 17) c
 rw[List.length_append] at e2
 unfold z0g at e2
 exact⟨b1,zjQ (by decide) (by omega) (by omega) b2,rfl⟩
theorem zdu {k:Int} {b:Bool} (h:0≤k∧k≤30):z0q (2,k,b)=true:=by
 unfold z0q
 dsimp only
 rw[decide_eq_true_iff]
 omega
structure WhH (w:WhT):Prop where
 g:∀ g ∈ w.1,GnH g
 l:(w.1.flatMap z0l).length≤16000000
 a:∀ a ∈ w.2,AtH a
theorem zbF {r:List AtT} (h:z0C r=true) (hb:∀ a ∈ r,AtH a):(r.flatMap atW).length≤16008320:=by
 obtain⟨h1,h2,h3,h4⟩:=z3u h
 have hfl:(r.flatMap atW).length≤r.length*1000520:=zd8 fun a ha=>by
  have:=z5r (h3 a ha)
  have:=(hb a ha).2
  omega
 have:r.length*1000520≤16*1000520:=Nat.mul_le_mul_right _ h2
 omega
theorem zjS {w:WhT} (h:z2b w=true) (hb:WhH w):(z2o w).length≤16777000:=by
 obtain⟨g,s⟩:=w
 unfold z2b at h
 unfold z2o
 dsimp only at*
 by_cases h0:0<s.length
 ·rw[if_pos h0,Bool.and_eq_true] at h
  have:=zbF h.2 hb.a
  have:=z0s (2,1,true) (s.flatMap atW)
  rw[if_pos h0]
  omega
 ·have:=hb.l
  dsimp only at this
  have:=z0s (2,0,true) (g.flatMap z0l)
  rw[if_neg h0]
  omega
theorem zjT {w:WhT} (h:z2b w=true) (hb:WhH w):z3t (z2o w)=(some w,(z2o w).length,0):=by
 obtain⟨g,s⟩:=w
 unfold z2b at h
 unfold z2o
 dsimp only at*
 by_cases h0:0<s.length
 ·rw[if_pos h0,Bool.and_eq_true,decide_eq_true_iff] at h
  obtain rfl:=List.eq_nil_of_length_eq_zero h.1
  rw[if_pos h0]
  have hl:=zbF h.2 hb.a
  have hs:=zjR h.2 hb.a
  generalize s.flatMap atW=c at*
  have hr:=z4h [] c [] (2,1,true) (by decide) (by omega)
  have hp:=z8e (z:= []) [] c [] (t:=(2,1,true)) (by decide) (by omega) hs
  have i0:=z7J [] c [] (2,1,true) (2,0,true) (by decide) (by omega)
  have i1:=z7J [] c [] (2,1,true) (2,1,true) (by decide) (by omega)
  rw[List.append_nil,List.nil_append,List.length_nil] at hr hp i0 i1
  unfold z3t
  rw[hr,i0,i1,hp]
  dsimp only
  rw[if_pos rfl,if_neg (by decide),if_pos (by decide),if_pos rfl,Nat.zero_add]
 ·rw[if_neg h0] at h ⊢
  obtain rfl:s= []:=List.eq_nil_of_length_eq_zero (by omega)
  have hl:=hb.l
  have hs:=zbv h hb.g
  dsimp only at hl
  generalize g.flatMap z0l=c at*
  have hr:=z4h [] c [] (2,0,true) (by decide) (by omega)
  have hp:=z8e (z:= []) [] c [] (t:=(2,0,true)) (by decide) (by omega) hs
  have i0:=z7J [] c [] (2,0,true) (2,0,true) (by decide) (by omega)
  rw[List.append_nil,List.nil_append,List.length_nil] at hr hp i0
  unfold z3t
  rw[hr,i0,hp]
  dsimp only
  rw[if_pos rfl,if_pos (by decide),if_pos rfl,Nat.zero_add]
theorem zhS {b:List Int} {o:Option WhT} {n:Nat} (hw:WfB b) (hl:b.length≤16000000) (h:z3t b=(o,n,0)) (hn:b.length≤n):∃ w,o=some w∧z2b w=true∧b=z2o w:=by
 unfold z3t at h
 dsimp only at h
 split at h
 ·split at h
  ·rename_i h1
   generalize hX:z0i [] b 0 (2,0,true) z16=X at*
   obtain⟨g,q,e⟩:=X
   dsimp only at h
   by_cases he:e=0
   ·subst he
    rw[if_pos rfl] at h
    simp only[Prod.mk.injEq] at h
    obtain⟨rfl,rfl,_⟩:=h
    refine⟨_,rfl,?_⟩
    rcases z3Z hw hX with ⟨rfl,rfl⟩ |⟨c,m,q1,q2,q3,q4,q5⟩
    ·have:b.length=0:=by omega
     obtain rfl:=List.eq_nil_of_length_eq_zero this
     have:=zaH [] (2,0,true)
     rw[List.length_nil] at this
     rw[this] at h1
     cases h1
    ·obtain⟨g1,_,g3⟩:=za2 q5 q1
     rw[List.drop_zero,List.drop_eq_nil_of_le hn,List.append_nil,g3] at q3
     unfold z2b z2o
     dsimp only
     rw[if_neg (by exact Nat.lt_irrefl 0),if_neg (by exact Nat.lt_irrefl 0)]
     exact⟨g1,q3⟩
   ·rw[if_neg he] at h
    simp only[Prod.mk.injEq] at h
    exact absurd h.2.2 he
  ·split at h
   ·rename_i h1
    generalize hX:z0i [] b 0 (2,1,true) z3s=X at*
    obtain⟨g,q,e⟩:=X
    dsimp only at h
    by_cases he:e=0
    ·subst he
     rw[if_pos rfl] at h
     simp only[Prod.mk.injEq] at h
     obtain⟨rfl,rfl,_⟩:=h
     refine⟨_,rfl,?_⟩
     rcases z3Z hw hX with ⟨rfl,rfl⟩ |⟨c,m,q1,q2,q3,q4,q5⟩
     ·have:b.length=0:=by omega
      obtain rfl:=List.eq_nil_of_length_eq_zero this
      have:=zaH [] (2,1,true)
      rw[List.length_nil] at this
      rw[this] at h1
      cases h1
     ·have hcl:=congrArg List.length q3
      have hwl:=z1x (2,1,true) c
      rw[List.drop_zero,List.length_append] at hcl
      obtain⟨g1,g2,_⟩:=zhR q5 (by omega) q1
      rw[List.drop_zero,List.drop_eq_nil_of_le hn,List.append_nil,g2] at q3
      have hg0:0<g.length:=by
       have:=(z3u g1).1
       exact List.length_pos_iff.2 this
      unfold z2b z2o
      dsimp only
      rw[if_pos hg0,if_pos hg0,g1]
      exact⟨rfl,q3⟩
    ·rw[if_neg he] at h
     simp only[Prod.mk.injEq] at h
     exact absurd h.2.2 he
   ·simp only[Prod.mk.injEq] at h
    exact absurd h.2.2 (by decide)
 ·rename_i h1
  simp only[Prod.mk.injEq] at h
  exact absurd h.2.2 h1
theorem zjU {u t:z0h} {b C:List Int} (hu:z0q u=true) (hb:b.length≤16777216) (h:u≠t):NoT (z05 u b++C) t:= .inr ⟨u,b,C,rfl,hu,hb,h⟩
theorem zjV {W D:List Int} {t:z0h} (h1:W= []∨∃ u b,W=z05 u b∧z0q u=true∧b.length≤16777216∧u≠t) (h2:NoT D t):NoT (W++D) t:=by
 rcases h1 with rfl |⟨u,b,rfl,q1,q2,q3⟩
 ·exact h2
 ·exact zjU q1 q2 q3
theorem zaI {t:z0h}:NoT [] t:= .inl rfl
theorem zdv {l:List Int}:(flC l).length≤3:=by
 unfold flC
 dsimp only
 split<;>exact Nat.le_of_ble_eq_true rfl
theorem zln (k:Int) (l:List Int):z1V k l= []∨∃ b,z1V k l=z05 (2,k,false) b∧b.length≤16777216:=by
 unfold z1V
 split
 ·exact .inl rfl
 ·exact .inr ⟨_,rfl,by have:=zdv (l:=l); omega⟩
theorem zq6 (k:Int) {l:List GnT} (h:(l.flatMap z0l).length≤16000000):tnW k l= []∨∃ b,tnW k l=z05 (2,k,true) b∧b.length≤16777216:=by
 unfold tnW
 split
 ·exact .inl rfl
 ·exact .inr ⟨_,rfl,by omega⟩
theorem zdw {W D:List Int} {k j:Int} {m m':Bool} (hk:0≤k∧k≤30) (hkj:k≠j) (h1:W= []∨∃ b,W=z05 (2,k,m) b∧b.length≤16777216) (h2:NoT D (2,j,m')):NoT (W++D) (2,j,m'):=
 zjV (h1.imp id fun⟨b,q1,q2⟩=>⟨_,b,q1,zdu hk,q2,fun e=>hkj (Prod.mk.inj (Prod.mk.inj e).2).1⟩) h2
theorem zjW (A:List Int) {o:Option WhT} {D:List Int} (h:z3J o=true) (hb:∀ w,o=some w→WhH w) (hD:NoT D (2,0,true)):z0i none (A++(z18 o++D)) A.length (2,0,true) z3t=(o,A.length+(z18 o).length,0):=by
 refine z8f A (z18 o) D ?_
 cases o with
 | none=>exact .inl ⟨rfl,rfl,hD⟩
 | some w=>
   have hl:=zjS (w:=w) h (hb w rfl)
   exact .inr ⟨_,rfl,by decide,by omega,zjT (w:=w) h (hb w rfl)⟩
theorem zjX (A:List Int) (k:Int) (hk:0≤k∧k≤30) {l D:List Int} (h:z0T l=true) (hD:NoT D (2,k,false)):z0i [] (A++(z1V k l++D)) A.length (2,k,false) z1p=(l,A.length+(z1V k l).length,0):=by
 refine z8f A _ D ?_
 unfold z1V
 by_cases h0:l.length=0
 ·rw[if_pos h0]
  exact .inl ⟨rfl,List.eq_nil_of_length_eq_zero h0,hD⟩
 ·rw[if_neg h0]
  exact .inr ⟨_,rfl,zdu hk,by have:=zdv (l:=l); omega,zhX h (by rintro rfl; exact h0 rfl)⟩
theorem zlo (A:List Int) (k:Int) (hk:0≤k∧k≤30) {l:List GnT} {D:List Int} (h:l.length=0∨z1g l=true) (hb:∀ g ∈ l,GnH g) (hl:(l.flatMap z0l).length≤16000000) (hD:NoT D (2,k,true)):z0i [] (A++(tnW k l++D)) A.length (2,k,true) z16=(l,A.length+(tnW k l).length,0):=by
 refine z8f A _ D ?_
 unfold tnW
 by_cases h0:l.length=0
 ·rw[if_pos h0]
  exact .inl ⟨rfl,List.eq_nil_of_length_eq_zero h0,hD⟩
 ·rw[if_neg h0]
  exact .inr ⟨_,rfl,zdu hk,by omega,zbv (h.resolve_left h0) hb⟩
structure PtH (p:PtT):Prop where
 w:∀ w,p.1=some w→WhH w
 g:∀ g ∈ p.2.2,GnH g
 l:(p.2.2.flatMap z0l).length≤16000000
 c:(z38 p).length≤16777216
theorem z63 {p:PtT} (h:z0A p=true):z3J p.1=true∧z0T p.2.1=true∧(p.2.2.length=0∨z1g p.2.2=true):=by
 unfold z0A at h
 simp only[Bool.and_eq_true,Bool.or_eq_true,decide_eq_true_iff] at h
 exact⟨h.1.1.1,h.1.1.2,h.1.2⟩
theorem zjY {p:PtT} (h:z0A p=true) (hb:PtH p):z42 (z38 p)=(p,0):=by
 obtain⟨h1,h2,h3⟩:=z63 h
 obtain⟨o,r,g⟩:=p
 dsimp only at*
 have o1:=zln 1 r
 have o2:=zq6 2 (l:=g) hb.l
 have e1:=zjW [] (D:=z1V 1 r++tnW 2 g) h1 hb.w (zdw (by decide) (by decide) o1 (by rw[←List.append_nil (tnW 2 g)]; exact zdw (by decide) (by decide) o2 zaI))
 have e2:=zjX (z18 o) 1 (by decide) (D:=tnW 2 g) h2 (by rw[←List.append_nil (tnW 2 g)]; exact zdw (by decide) (by decide) o2 zaI)
 have e3:=zlo (z18 o++z1V 1 r) 2 (by decide) (D:= []) h3 hb.g hb.l zaI
 rw[List.nil_append,List.length_nil,Nat.zero_add] at e1
 rw[List.append_nil,List.append_assoc,List.length_append] at e3
 unfold z42 z38
 dsimp only
 rw[e1]
 dsimp only
 rw[if_pos rfl,e2]
 dsimp only
 rw[if_pos rfl,e3]
 dsimp only
 rw[if_pos rfl,if_neg (by simp only[List.length_append]; omega),if_pos h]
theorem zdx (A C:List Int) {p:PtT} (h:z0A p=true) (hb:PtH p):z1t (A++(z0o p++C)) A.length=(p,A.length+(z0o p).length,0):=by
 have h1:=z3y A (z38 p) C (ofT 16) (by decide) hb.c
 unfold z1t z0o
 rw[h1]
 dsimp only
 rw[if_pos rfl,zjY h hb]
 rfl
theorem zdy {x:List Int} {o:Option WhT} {p q:Nat} (hw:WfB x) (hl:x.length≤16000000) (h:z0i none x p (2,0,true) z3t=(o,q,0)):z3J o=true∧x.drop p=z18 o++x.drop q:=by
 rcases z3Z hw h with ⟨rfl,rfl⟩ |⟨b,n,q1,q2,q3,q4,q5⟩
 ·exact⟨rfl,rfl⟩
 ·have hcl:=congrArg List.length q3
  have hwl:=z1x (2,0,true) b
  rw[List.length_append,List.length_drop] at hcl
  obtain⟨w,rfl,w1,w2⟩:=zhS q5 (by omega) q1 q2
  refine⟨w1,?_⟩
  rw[q3,w2]
  rfl
theorem zdz {x l:List Int} {k:Int} {p q:Nat} (hw:WfB x) (h:z0i [] x p (2,k,false) z1p=(l,q,0)):z0T l=true∧x.drop p=z1V k l++x.drop q:=by
 rcases z3Z hw h with ⟨rfl,rfl⟩ |⟨b,n,q1,q2,q3,q4,q5⟩
 ·exact⟨rfl,rfl⟩
 ·obtain⟨f1,f2,f3,_⟩:=zg7 q5 q1
  refine⟨f1,?_⟩
  unfold z1V
  rw[if_neg (fun e=>f2 (List.eq_nil_of_length_eq_zero e)),q3,f3]
theorem zlp {x:List Int} {l:List GnT} {k:Int} {p q:Nat} (hw:WfB x) (h:z0i [] x p (2,k,true) z16=(l,q,0)):(l.length=0∨z1g l=true)∧x.drop p=tnW k l++x.drop q:=by
 rcases z3Z hw h with ⟨rfl,rfl⟩ |⟨b,n,q1,q2,q3,q4,q5⟩
 ·exact⟨.inl rfl,rfl⟩
 ·obtain⟨f1,_,f3⟩:=za2 q5 q1
  refine⟨.inr f1,?_⟩
  have:=(za7 f1).1
  unfold tnW
  rw[if_neg (by omega),q3,f3]
theorem z7u {x:List Int} {v:Bool} {k:Int} {p q:Nat} (hw:WfB x) (h:z0i false x p (2,k,false) z1E=(v,q,0)):x.drop p=z2p k v++x.drop q:=by
 rcases z3Z hw h with ⟨rfl,rfl⟩ |⟨b,n,q1,q2,q3,q4,q5⟩
 ·rfl
 ·unfold z1E at q1
  split at q1
  ·simp only[Prod.mk.injEq] at q1
   obtain⟨rfl,_⟩:=q1
   rw[q3,‹b= [255]›]
   rfl
  ·simp only[Prod.mk.injEq] at q1
   exact absurd q1.2.2 (by decide)
theorem zhT {x:List Int} {p:PtT} (hw:WfB x) (hl:x.length≤16000000) (h:z42 x=(p,0)):x=z38 p:=by
 unfold z42 at h
 dsimp only at h
 generalize hA:z0i none x 0 (2,0,true) z3t=A at*
 obtain⟨a,pa,ea⟩:=A
 dsimp only at h
 split at h
 ·rename_i e1
  subst e1
  generalize hB:z0i [] x pa (2,1,false) z1p=B at*
  obtain⟨b,pb,eb⟩:=B
  dsimp only at h
  split at h
  ·rename_i e2
   subst e2
   generalize hC:z0i [] x pb (2,2,true) z16=C at*
   obtain⟨c,pc,ec⟩:=C
   dsimp only at h
   split at h
   ·rename_i e3
    subst e3
    split at h
    ·simp at h
    ·split at h
     ·simp only[Prod.mk.injEq] at h
      obtain⟨rfl,_⟩:=h
      obtain⟨_,d1⟩:=zdy hw hl hA
      obtain⟨_,d2⟩:=zdz hw hB
      obtain⟨_,d3⟩:=zlp hw hC
      rw[List.drop_zero] at d1
      rw[d1,d2,d3,List.drop_eq_nil_of_le (by omega),List.append_nil]
      rfl
     ·simp at h
   ·simp only[Prod.mk.injEq] at h
    exact absurd h.2 ‹_›
  ·simp only[Prod.mk.injEq] at h
   exact absurd h.2 ‹_›
 ·simp only[Prod.mk.injEq] at h
  exact absurd h.2 ‹_›
theorem zbG {x:List Int} {p:PtT} {a q:Nat} (hw:WfB x) (hl:x.length≤16000000) (h:z1t x a=(p,q,0)):x.drop a=z0o p++x.drop q:=by
 have hm:=z0H x a (ofT 16)
 unfold z1t at h
 generalize hX:z0r x a (ofT 16)=X at*
 obtain⟨y,s,e⟩:=X
 dsimp only at*
 split at h
 ·rename_i e1
  subst e1
  split at h
  ·rename_i e2
   simp only[Prod.mk.injEq] at h
   obtain⟨rfl,rfl,_⟩:=h
   obtain⟨_,b2⟩:=z2Y hw hX
   have:=zhT (x:=y) (p:=(z42 y).1) (fun z hz=>hw z (hm.2 z hz)) (by omega) (by rw[←e2])
   unfold z0o
   rw[←this]
   exact b2
  ·simp only[Prod.mk.injEq] at h
   exact absurd h.2.2 ‹_›
 ·simp only[Prod.mk.injEq] at h
  exact absurd h.2.2 ‹_›
set_option maxHeartbeats 4000000 in
theorem zbH (k:Int) (g:List GnT) (t:z0h) (l:List Int) (n:Nat) (us:List Value) (hk:0≤k∧k≤30) (hg:g.length=0∨z1g g=true) (hb1:∀ x ∈ g,GnB x) (hgl:(g.flatMap z0l).length≤12800000) (hl:l.length+(g.flatMap z0l).length≤14000000) (hu:us.length=5*n) (hn0:0<n) (hnl:n≤800):
  CtM Tryz.prog 97 [.agg [.ptr 0 0],lv (.int .i64 k),gnV g] [shG t false (.own 1 1 0 l.length) (.own 2 5 0 n) 0,rB l,.fr us []] (.tup []) [shG t false (.own 3 1 0 (l++tnW k g).length) (.own 4 5 0 n) 0,.gone,.gone] [rB (l++tnW k g),.fr us []]:=by
 unfold tnW
 by_cases h0:g.length=0
 ·rw[if_pos h0,List.append_nil]
  obtain rfl:=List.eq_nil_of_length_eq_zero h0
  refine z17 Tryz.func97 rfl rfl rfl rfl rfl (fun E hn hb=>?_)
  repeat refine nx ?_
  exact rtM [1,2]
 ·rw[if_neg h0]
  have hok:=hg.resolve_left h0
  have hw:=zdm g hb1 hok hgl
  have hat:=z1j k true
  have hrt:z0q (2,k,true)=true:=by unfold z0q; dsimp only; rw[decide_eq_true_iff]; omega
  have hwl:=z0s (2,k,true) (g.flatMap z0l)
  have hml:(gnR g).length=g.length:=List.length_map ..
  have ho:=z7v t (2,k,true) false l n us hu hn0 (by omega)
  generalize g.flatMap z0l=W at*
  have hf:=fun(a:Option Addr) (c:Nat)=>(z64 t false l 0 0 a n c).m
  have hpu:=fun(a:Option Addr) (c:Nat)=>z5G (2,k,true) false [] [W] a (n+1) c (Nat.le_of_ble_eq_true rfl) (by rw[show [W].flatten=W by simp,List.length_nil]; omega)
  rw[show [W].flatten=W by simp,List.nil_append] at hpu
  have hsh:=z3z (2,k,true) t false W l n us hu hrt (by omega) (by omega)
  have hne:¬ g= []:=fun e=>h0 (by rw[e]; rfl)
  refine z17 Tryz.func97 rfl rfl rfl rfl rfl (fun E hn hb=>?_)
  repeat refine nx ?_
  refine z1w (l:= [(1,lv (.int .i64 k)),(3,.c (.ptr 67 0)),(6,B8 W)]) (hs:= [(0,shG t false (.own 1 1 0 l.length) (.own 2 5 0 n) 0),(1,rB l),(2,.fr us []),(67,.cells [.ptr 0 0])]) [0,1] 0 5 hf rfl rfl (by rw[hn]; rfl) rfl (fun _ _=>rfl) rfl rfl (fun _ _=>rfl) (fun _ _=>trivial) (fun _ _=>⟨rfl,⟨rfl,rfl⟩,(by simp[z0b]),rfl⟩) (fun _ _=>rfl) (fun _ _=>rfl) (fun _ _=>by repeat' (first | exact trivial | exact rfl | exact congrArg (fun x=>lv (.int .i64 x)) (by omega) | refine⟨?_,?_⟩)) ?_
  repeat refine nxw ?_
  refine duF [88] [(4,0),(4,1),(4,2),(4,88)] ?_
  repeat (first | refine nx ?_ | refine z9i [0,1,2] hn ho ?_)
  refine z4x (fun a w h=>SR.cell_nil 0 4 900 rfl rfl rfl rfl rfl h) ?_
  repeat refine nx ?_
  refine z1w (l:= [(3,.c (.ptr 67 0))]) (hs:= [(0,shG (2,k,true) false (.own 93 1 0 W.length) (.own 88 5 0 (n+1)) 0),(1,rB l),(93,rB W),(67,.cells [.ptr 0 0]),(88,.fr us (frC t false (.own 1 1 0 l.length)))]) [0,900] 0 5 hpu rfl rfl (by rw[hn]; rfl) rfl (fun _ _=>rfl) rfl rfl (fun _ _=>rfl) (fun _ _=>trivial) (fun _ _=>⟨rfl,⟨rfl,rfl⟩,(by simp[z0b]),rfl⟩) (fun _ _=>rfl) (fun _ _=>rfl) (fun _ _=>by repeat' (first | exact trivial | exact rfl | exact congrArg (fun x=>lv (.int .i64 x)) (by omega) | refine⟨?_,?_⟩)) ?_
  repeat refine nx ?_
  refine z4U 93 0 ?_
  refine z2D [0,88,1] hsh rfl rfl (by rw[hn]; rfl) rfl rfl (by trivial) ⟨rfl,⟨rfl,rfl,rfl⟩,(by simp[z0b]),rfl⟩ ?_
  repeat refine nx ?_
  exact rtN [96,88]
end Go.Proofs.YtaagjnlkinojcaaGreat

/-
  Chapter 16, plain: reasons' bits as the program writes them. No condition.
-/
import Derived.Test.YtaagjnlkinojcaaGreatN1
import Derived.Test.YtaagjnlkinojcaaGreatQ13
import Derived.Test.YtaagjnlkinojcaaGreatP0
import Derived.Test.YtaagjnlkinojcaaGreatQ3
namespace Go.Proofs.YtaagjnlkinojcaaGreat
set_option linter.unusedSimpArgs false
set_option linter.unusedVariables false
open Go.Sx
set_option maxRecDepth 10000
abbrev blV (b:Bool):Av:=lv (.bool b)
theorem z7a (x:List Int) (hl:x.length≤16000000):Ct Tryz.prog 91 [.c (.ptr 0 0)] [z05 x 0] (.tup [lv (.bool (z1f x).1),lv (.int .i64 (z1f x).2.2)]) [z05 x (z1f x).2.1] []:=by
 have hre:=z6s x 0 (Nat.zero_le _) hl
 rw[List.drop_zero] at hre
 unfold z1f
 match x,hre with
 | [],hre=>
   rw[if_neg (by simp)]
   refine z00 Tryz.func91 rfl rfl rfl rfl rfl (fun E hn hb=>?_)
   repeat refine nx ?_
   exact rt1 []
 | [u],hre=>
   by_cases h1:u=255
   ·subst h1
    rw[if_pos rfl]
    refine z00 Tryz.func91 rfl rfl rfl rfl rfl (fun E hn hb=>?_)
    repeat refine nx ?_
    exact rt1 []
   ·rw[if_neg (by simp[h1])]
    refine z00 Tryz.func91 rfl rfl rfl rfl rfl (fun E hn hb=>?_)
    repeat refine nx ?_
    exact rt1 []
 | u::v::t,hre=>
   rw[if_neg (by simp)]
   refine z00 Tryz.func91 rfl rfl rfl rfl rfl (fun E hn hb=>?_)
   repeat refine nx ?_
   exact rt1 []
theorem ziD (x:List Int) (hl:x.length≤11880000) (hw:WfB x):Ct Tryz.prog 114 [.c (.ptr 0 0)] [z05 x 0] (.tup [z39 (z3K x).1,lv (.int .i64 (z3K x).2.2)]) [z05 x (z3K x).2.1] []:=by
 have hre:=z6s x 0 (Nat.zero_le _) (by omega)
 rw[List.drop_zero] at hre
 have hho:=z1G 17
 have hwr:=z6E (ofT 17) [x] (by decide) (by simp) (by simp; omega)
 rw[show [x].flatten=x by simp] at hwr
 have hwl:=z0t (ofT 17) x
 have hcn:=z2f (z04 (ofT 17) x) (by omega)
 have hrd:=zfv (z04 (ofT 17) x) 0 (Nat.zero_le _) (by omega) (z1B _ _ (by decide) hw)
 unfold z3K
 generalize z04 (ofT 17) x=W at*
 generalize z1m W 0=R at*
 obtain⟨r,q,e⟩:=R
 dsimp only at*
 refine z00 Tryz.func114 rfl rfl rfl rfl rfl (fun E hn hb=>?_)
 repeat refine nx ?_
 exact rt1 []
set_option maxHeartbeats 4000000 in
theorem ziE (l:List Int) (p:Nat) (n:Int) (b:Bool) (g:Nat) (rd:List Int→List GnT×Nat×Int) (hp:p≤l.length) (hl:l.length≤11880000) (hw:WfB l) (hs:∀ x,(rd x).2.1≤x.length)
  (hrd:∀ x:List Int,x.length≤l.length→WfB x→Ct Tryz.prog g [.c (.ptr 0 0)] [z05 x 0] (.tup [gnV (rd x).1,lv (.int .i64 (rd x).2.2)]) [z05 x (rd x).2.1] []):
  Ct Tryz.prog 112 [.c (.ptr 0 0),lv (.int .i64 n),lv (.bool b),.c (.fn (.func g) [] [])] [z05 l p] (.tup [gnV (z0l [] l p (2,n,b) rd).1,lv (.int .i64 (z0l [] l p (2,n,b) rd).2.2)]) [z05 l (z0l [] l p (2,n,b) rd).2.1] []:=by
 have ht:=z1j n b
 have hi:=z2W l p (2,n,b) hp (by omega) hw
 have hop:=z2m l p (2,n,b) hp (by omega) hw
 have hoe:=z31 l p (2,n,b) hp (by omega) hw
 have hmem:=z0H l p (2,n,b)
 change Ct _ _ _ _ (lv (.bool (isH l p (2,n,b)))) _ _ at hi
 unfold z0l
 by_cases h:isH l p (2,n,b)=true
 ·rw[h] at hi
  rw[if_pos h]
  generalize z0m l p (2,n,b)=X at*
  obtain⟨x,q,e⟩:=X
  dsimp only at*
  by_cases he:e=0
  ·subst he
   have hop:=hop rfl
   rw[if_pos rfl]
   have hr:=hrd x hmem.1 (fun z hz=>hw z (hmem.2 z hz))
   have hsx:=hs x
   generalize rd x=R at*
   obtain⟨r,s,f⟩:=R
   dsimp only at*
   by_cases hf:f=0
   ·subst hf
    rw[if_pos rfl]
    have hlf:=z1b x s hsx (by omega)
    by_cases hlt:s<x.length
    ·rw[if_pos hlt]
     refine z00 Tryz.func112 rfl rfl rfl rfl rfl (fun E hn hb=>?_)
     repeat refine nx ?_
     exact rtU []
    ·rw[if_neg hlt]
     refine z00 Tryz.func112 rfl rfl rfl rfl rfl (fun E hn hb=>?_)
     repeat refine nx ?_
     exact rt1 []
   ·rw[if_neg hf]
    refine z00 Tryz.func112 rfl rfl rfl rfl rfl (fun E hn hb=>?_)
    repeat refine nx ?_
    exact rtU []
  ·have hoe:=hoe he
   rw[if_neg he]
   refine z00 Tryz.func112 rfl rfl rfl rfl rfl (fun E hn hb=>?_)
   repeat refine nx ?_
   exact rtU []
 ·rw[Bool.eq_false_iff.2 h] at hi
  rw[if_neg h]
  refine z00 Tryz.func112 rfl rfl rfl rfl rfl (fun E hn hb=>?_)
  repeat refine nx ?_
  exact rtU []
set_option maxHeartbeats 4000000 in
theorem ziF (l:List Int) (p:Nat) (n:Int) (b:Bool) (g:Nat) (rd:List Int→List AtT×Nat×Int) (hp:p≤l.length) (hl:l.length≤11880000) (hw:WfB l) (hs:∀ x,(rd x).2.1≤x.length)
  (hrd:∀ x:List Int,x.length≤l.length→WfB x→Ct Tryz.prog g [.c (.ptr 0 0)] [z05 x 0] (.tup [z39 (rd x).1,lv (.int .i64 (rd x).2.2)]) [z05 x (rd x).2.1] []):
  Ct Tryz.prog 113 [.c (.ptr 0 0),lv (.int .i64 n),lv (.bool b),.c (.fn (.func g) [] [])] [z05 l p] (.tup [z39 (z0l [] l p (2,n,b) rd).1,lv (.int .i64 (z0l [] l p (2,n,b) rd).2.2)]) [z05 l (z0l [] l p (2,n,b) rd).2.1] []:=by
 have ht:=z1j n b
 have hi:=z2W l p (2,n,b) hp (by omega) hw
 have hop:=z2m l p (2,n,b) hp (by omega) hw
 have hoe:=z31 l p (2,n,b) hp (by omega) hw
 have hmem:=z0H l p (2,n,b)
 change Ct _ _ _ _ (lv (.bool (isH l p (2,n,b)))) _ _ at hi
 unfold z0l
 by_cases h:isH l p (2,n,b)=true
 ·rw[h] at hi
  rw[if_pos h]
  generalize z0m l p (2,n,b)=X at*
  obtain⟨x,q,e⟩:=X
  dsimp only at*
  by_cases he:e=0
  ·subst he
   have hop:=hop rfl
   rw[if_pos rfl]
   have hr:=hrd x hmem.1 (fun z hz=>hw z (hmem.2 z hz))
   have hsx:=hs x
   generalize rd x=R at*
   obtain⟨r,s,f⟩:=R
   dsimp only at*
   by_cases hf:f=0
   ·subst hf
    rw[if_pos rfl]
    have hlf:=z1b x s hsx (by omega)
    by_cases hlt:s<x.length
    ·rw[if_pos hlt]
     refine z00 Tryz.func113 rfl rfl rfl rfl rfl (fun E hn hb=>?_)
     repeat refine nx ?_
     exact rtU []
    ·rw[if_neg hlt]
     refine z00 Tryz.func113 rfl rfl rfl rfl rfl (fun E hn hb=>?_)
     repeat refine nx ?_
     exact rt1 []
   ·rw[if_neg hf]
    refine z00 Tryz.func113 rfl rfl rfl rfl rfl (fun E hn hb=>?_)
    repeat refine nx ?_
    exact rtU []
  ·have hoe:=hoe he
   rw[if_neg he]
   refine z00 Tryz.func113 rfl rfl rfl rfl rfl (fun E hn hb=>?_)
   repeat refine nx ?_
   exact rtU []
 ·rw[Bool.eq_false_iff.2 h] at hi
  rw[if_neg h]
  refine z00 Tryz.func113 rfl rfl rfl rfl rfl (fun E hn hb=>?_)
  repeat refine nx ?_
  exact rtU []
set_option maxHeartbeats 4000000 in
theorem ziG (l:List Int) (p:Nat) (n:Int) (b:Bool) (g:Nat) (rd:List Int→List Int×Nat×Int) (hp:p≤l.length) (hl:l.length≤11880000) (hw:WfB l) (hs:∀ x,(rd x).2.1≤x.length)
  (hrd:∀ x:List Int,x.length≤l.length→WfB x→Ct Tryz.prog g [.c (.ptr 0 0)] [z05 x 0] (.tup [I64 (rd x).1,lv (.int .i64 (rd x).2.2)]) [z05 x (rd x).2.1] []):
  Ct Tryz.prog 115 [.c (.ptr 0 0),lv (.int .i64 n),lv (.bool b),.c (.fn (.func g) [] [])] [z05 l p] (.tup [I64 (z0l [] l p (2,n,b) rd).1,lv (.int .i64 (z0l [] l p (2,n,b) rd).2.2)]) [z05 l (z0l [] l p (2,n,b) rd).2.1] []:=by
 have ht:=z1j n b
 have hi:=z2W l p (2,n,b) hp (by omega) hw
 have hop:=z2m l p (2,n,b) hp (by omega) hw
 have hoe:=z31 l p (2,n,b) hp (by omega) hw
 have hmem:=z0H l p (2,n,b)
 change Ct _ _ _ _ (lv (.bool (isH l p (2,n,b)))) _ _ at hi
 unfold z0l
 by_cases h:isH l p (2,n,b)=true
 ·rw[h] at hi
  rw[if_pos h]
  generalize z0m l p (2,n,b)=X at*
  obtain⟨x,q,e⟩:=X
  dsimp only at*
  by_cases he:e=0
  ·subst he
   have hop:=hop rfl
   rw[if_pos rfl]
   have hr:=hrd x hmem.1 (fun z hz=>hw z (hmem.2 z hz))
   have hsx:=hs x
   generalize rd x=R at*
   obtain⟨r,s,f⟩:=R
   dsimp only at*
   by_cases hf:f=0
   ·subst hf
    rw[if_pos rfl]
    have hlf:=z1b x s hsx (by omega)
    by_cases hlt:s<x.length
    ·rw[if_pos hlt]
     refine z00 Tryz.func115 rfl rfl rfl rfl rfl (fun E hn hb=>?_)
     repeat refine nx ?_
     exact rtU []
    ·rw[if_neg hlt]
     refine z00 Tryz.func115 rfl rfl rfl rfl rfl (fun E hn hb=>?_)
     repeat refine nx ?_
     exact rt1 []
   ·rw[if_neg hf]
    refine z00 Tryz.func115 rfl rfl rfl rfl rfl (fun E hn hb=>?_)
    repeat refine nx ?_
    exact rtU []
  ·have hoe:=hoe he
   rw[if_neg he]
   refine z00 Tryz.func115 rfl rfl rfl rfl rfl (fun E hn hb=>?_)
   repeat refine nx ?_
   exact rtU []
 ·rw[Bool.eq_false_iff.2 h] at hi
  rw[if_neg h]
  refine z00 Tryz.func115 rfl rfl rfl rfl rfl (fun E hn hb=>?_)
  repeat refine nx ?_
  exact rtU []
set_option maxHeartbeats 4000000 in
theorem ziH (l:List Int) (p:Nat) (n:Int) (b:Bool) (g:Nat) (rd:List Int→Bool×Nat×Int) (hp:p≤l.length) (hl:l.length≤11880000) (hw:WfB l) (hs:∀ x,(rd x).2.1≤x.length)
  (hrd:∀ x:List Int,x.length≤l.length→WfB x→Ct Tryz.prog g [.c (.ptr 0 0)] [z05 x 0] (.tup [blV (rd x).1,lv (.int .i64 (rd x).2.2)]) [z05 x (rd x).2.1] []):
  Ct Tryz.prog 149 [.c (.ptr 0 0),lv (.int .i64 n),lv (.bool b),.c (.fn (.func g) [] [])] [z05 l p] (.tup [blV (z0l false l p (2,n,b) rd).1,lv (.int .i64 (z0l false l p (2,n,b) rd).2.2)]) [z05 l (z0l false l p (2,n,b) rd).2.1] []:=by
 have ht:=z1j n b
 have hi:=z2W l p (2,n,b) hp (by omega) hw
 have hop:=z2m l p (2,n,b) hp (by omega) hw
 have hoe:=z31 l p (2,n,b) hp (by omega) hw
 have hmem:=z0H l p (2,n,b)
 change Ct _ _ _ _ (lv (.bool (isH l p (2,n,b)))) _ _ at hi
 unfold z0l
 by_cases h:isH l p (2,n,b)=true
 ·rw[h] at hi
  rw[if_pos h]
  generalize z0m l p (2,n,b)=X at*
  obtain⟨x,q,e⟩:=X
  dsimp only at*
  by_cases he:e=0
  ·subst he
   have hop:=hop rfl
   rw[if_pos rfl]
   have hr:=hrd x hmem.1 (fun z hz=>hw z (hmem.2 z hz))
   have hsx:=hs x
   generalize rd x=R at*
   obtain⟨r,s,f⟩:=R
   dsimp only at*
   by_cases hf:f=0
   ·subst hf
    rw[if_pos rfl]
    have hlf:=z1b x s hsx (by omega)
    by_cases hlt:s<x.length
    ·rw[if_pos hlt]
     refine z00 Tryz.func149 rfl rfl rfl rfl rfl (fun E hn hb=>?_)
     repeat refine nx ?_
     exact rt1 []
    ·rw[if_neg hlt]
     refine z00 Tryz.func149 rfl rfl rfl rfl rfl (fun E hn hb=>?_)
     repeat refine nx ?_
     exact rt1 []
   ·rw[if_neg hf]
    refine z00 Tryz.func149 rfl rfl rfl rfl rfl (fun E hn hb=>?_)
    repeat refine nx ?_
    exact rt1 []
  ·have hoe:=hoe he
   rw[if_neg he]
   refine z00 Tryz.func149 rfl rfl rfl rfl rfl (fun E hn hb=>?_)
   repeat refine nx ?_
   exact rt1 []
 ·rw[Bool.eq_false_iff.2 h] at hi
  rw[if_neg h]
  refine z00 Tryz.func149 rfl rfl rfl rfl rfl (fun E hn hb=>?_)
  repeat refine nx ?_
  exact rt1 []
def z1D {α:Type} (z:α) (e:Int) (l:List Int) (p:Nat) (t:z0g) (rd:List Int→α×Nat×Int):α×Nat×Int:=if e=0 then z0l z l p t rd else(z,p,e)
theorem ziI (l:List Int) (p:Nat) (n:Int) (b:Bool) (g:Nat) (e:Int) (rd:List Int→List Int×Nat×Int) (hp:p≤l.length) (hl:l.length≤11880000) (hw:WfB l) (hs:∀ x,(rd x).2.1≤x.length)
  (hrd:∀ x:List Int,x.length≤l.length→WfB x→Ct Tryz.prog g [.c (.ptr 0 0)] [z05 x 0] (.tup [I64 (rd x).1,lv (.int .i64 (rd x).2.2)]) [z05 x (rd x).2.1] []):
  Ct Tryz.prog 53 [.c (.ptr 0 0),lv (.int .i64 n),lv (.bool b),.c (.fn (.func g) [] [])] [z2y e,z05 l p] (I64 (z1D [] e l p (2,n,b) rd).1) [z2y (z1D [] e l p (2,n,b) rd).2.2,z05 l (z1D [] e l p (2,n,b) rd).2.1] []:=by
 have h:=ziG l p n b g rd hp hl hw hs hrd
 unfold z1D
 by_cases he:e=0
 ·subst he
  rw[if_pos rfl]
  generalize z0l [] l p (2,n,b) rd=R at*
  obtain⟨r,q,f⟩:=R
  dsimp only at*
  refine z00 Tryz.func53 rfl rfl rfl rfl rfl (fun E hn hb=>?_)
  repeat refine nx ?_
  exact rt1 []
 ·rw[if_neg he]
  refine z00 Tryz.func53 rfl rfl rfl rfl rfl (fun E hn hb=>?_)
  repeat refine nx ?_
  exact rtU []
theorem z7b (l:List Int) (p:Nat) (n:Int) (b:Bool) (g:Nat) (e:Int) (rd:List Int→Bool×Nat×Int) (hp:p≤l.length) (hl:l.length≤11880000) (hw:WfB l) (hs:∀ x,(rd x).2.1≤x.length)
  (hrd:∀ x:List Int,x.length≤l.length→WfB x→Ct Tryz.prog g [.c (.ptr 0 0)] [z05 x 0] (.tup [blV (rd x).1,lv (.int .i64 (rd x).2.2)]) [z05 x (rd x).2.1] []):
  Ct Tryz.prog 90 [.c (.ptr 0 0),lv (.int .i64 n),lv (.bool b),.c (.fn (.func g) [] [])] [z2y e,z05 l p] (blV (z1D false e l p (2,n,b) rd).1) [z2y (z1D false e l p (2,n,b) rd).2.2,z05 l (z1D false e l p (2,n,b) rd).2.1] []:=by
 have h:=ziH l p n b g rd hp hl hw hs hrd
 unfold z1D
 by_cases he:e=0
 ·subst he
  rw[if_pos rfl]
  generalize z0l false l p (2,n,b) rd=R at*
  obtain⟨r,q,f⟩:=R
  dsimp only at*
  refine z00 Tryz.func90 rfl rfl rfl rfl rfl (fun E hn hb=>?_)
  repeat refine nx ?_
  exact rt1 []
 ·rw[if_neg he]
  refine z00 Tryz.func90 rfl rfl rfl rfl rfl (fun E hn hb=>?_)
  repeat refine nx ?_
  exact rt1 []
def z4F (lo:Int):List Int→Bool
 | []=>true
 | x::l=>decide (lo<x)&&decide (x<32)&&z4F x l
def z0U (l:List Int) (i:Nat):Int:=if i=0 then -1 else l.getD (i -1) 0
def upI (l:List Int) (i:Nat):Prop:=∀ j,j<i→z0U l j<l.getD j 0∧l.getD j 0<32
theorem zcF:∀(l:List Int) (lo:Int),z4F lo l=true↔∀ j,j<l.length→(if j=0 then lo else l.getD (j -1) 0)<l.getD j 0∧l.getD j 0<32
 | [],lo=>by simp[z4F]
 | x::l,lo=>by
   have ih:=zcF l x
   rw[z4F,Bool.and_eq_true,Bool.and_eq_true,decide_eq_true_eq,decide_eq_true_eq,ih]
   constructor
   ·rintro⟨⟨h1,h2⟩,h3⟩ j hj
    cases j with
    | zero=>exact⟨h1,h2⟩
    | succ j=>
      have:=h3 j (by simpa using hj)
      cases j with
      | zero=>exact this
      | succ j=>exact this
   ·intro h
    refine⟨h 0 (by simp),fun j hj=>?_⟩
    have:=h (j+1) (by simpa using hj)
    cases j with
    | zero=>exact this
    | succ j=>exact this
theorem zaB (l:List Int):z4F (-1) l=true↔upI l l.length:=zcF l (-1)
theorem zcG {l:List Int} {i:Nat} (h:upI l i):∀ j,j<i→0≤l.getD j 0∧l.getD j 0<32
 | 0,hj=>by
   have:=h 0 hj
   unfold z0U at this
   rw[if_pos rfl] at this
   omega
 | j+1,hj=>by
   have:=zcG h j (by omega)
   have:=h (j+1) hj
   unfold z0U at this
   rw[if_neg (by omega),Nat.add_sub_cancel] at this
   omega
theorem zkG (l:List Int) (hl:l.length≤16000000) (h:z4F (-1) l=false):Ct Tryz.prog 144 [I64 l] [] (.tup [z3t 0 [],lv (.int .i64 1)]) [] []:=by
 have hS:=zaB l
 rw[h] at hS
 refine z00 Tryz.func144 rfl rfl rfl rfl rfl (fun E hn hb=>?_)
 repeat refine nx ?_
 refine z09 (St.le_of (l:= [(2,.c (.ptr 66 0)),(3,lv (.int .i64 0)),(4,lv (.int .i64 (z0U l 0))),(11,I64 l),(12,lv (.int .i64 (l.length:Int))),(13,lv (.int .i64 ((0:Nat):Int)))]) (h:= [(66,.cells [.lf (.v (.int .i64 0)),.lf (.v (.slice none 0 0))])]) (by refine⟨?_,?_⟩<;>(repeat' (first | exact trivial | exact rfl | refine⟨?_,?_⟩))<;>first | exact rfl |(simp; done) | skip)) ?_
 refine z0h (ι:= {i:Nat//i≤l.length∧upI l i}) (fun i=>St.of [(2,.c (.ptr 66 0)),(3,lv (.int .i64 0)),(4,lv (.int .i64 (z0U l i.1))),(11,I64 l),(12,lv (.int .i64 (l.length:Int))),(13,lv (.int .i64 (i.1:Int)))] [(66,.cells [.lf (.v (.int .i64 0)),.lf (.v (.slice none 0 0))])]) (fun i=>l.length -i.1) (fun i=>?_) ⟨0,Nat.zero_le _,fun j hj=>by omega⟩
 obtain⟨i,hi,hu⟩:=i
 dsimp only
 by_cases hi2:i<l.length
 ·have hq:l.getD (i:Int).toNat 0=l.getD i 0:=rfl
  have hn1:z0U l (i+1)=l.getD i 0:=by unfold z0U; rw[if_neg (by omega),Nat.add_sub_cancel]
  generalize hX:l.getD i 0=X at*
  generalize hL:z0U l i=L at*
  by_cases h1:X≤L
  ·repeat (first | refine nx ?_ | rw[hq])
   refine rtU [] (hu:=?_)
   exact⟨⟨.inl rfl,.inr ⟨rfl,.inl ⟨_,rfl⟩⟩,trivial⟩,.inl rfl,trivial⟩
  ·by_cases h2:32≤X
   ·repeat (first | refine nx ?_ | rw[hq])
    refine rtU [] (hu:=?_)
    exact⟨⟨.inl rfl,.inr ⟨rfl,.inl ⟨_,rfl⟩⟩,trivial⟩,.inl rfl,trivial⟩
   ·repeat (first | refine nx ?_ | rw[hq])
    refine z07 ⟨i+1,hi2,fun j hj=>by
     by_cases e:j=i
     ·subst e; rw[hX,hL]; omega
     ·exact hu j (by omega)⟩ (by dsimp only; omega) (St.le_of ⟨⟨rfl,rfl,?_,rfl,rfl,rfl⟩,rfl⟩)
    show lv (.int .i64 X)=lv (.int .i64 (z0U l (i+1)))
    rw[hn1]
 ·obtain rfl:i=l.length:=by omega
  exact absurd (hS.2 hu) (by simp)
def stV (c x:Int):Int:=Go.IntKind.u8.wrap (BitVec.ofInt Go.IntKind.u8.bits c||| BitVec.ofInt Go.IntKind.u8.bits (128/2^min (x%8).toNat Go.IntKind.u8.bits)).toNat
def stY (s:List Int) (x:Int):List Int:=s.set (0+(x/8).toNat) (stV (s.getD (0+(x/8).toNat) 0) x)
def orY (l:List Int) (m:Nat):Nat→List Int
 | 0=>List.replicate m 0
 | i+1=>stY (orY l m i) (l.getD i 0)
theorem z8v (l:List Int) (m:Nat):∀ i,(orY l m i).length=m
 | 0=>by simp[orY]
 | i+1=>by rw[orY,stY,List.length_set,z8v l m i]
theorem zcH {l:List Int} (hu:upI l l.length):∀(d i:Nat),i+d<l.length→l.getD i 0≤l.getD (i+d) 0
 | 0,i,_=>by simp
 | d+1,i,h=>by
   have h1:=zcH hu d i (by omega)
   have h2:=(hu (i+d+1) (by omega)).1
   unfold z0U at h2
   rw[if_neg (by omega),Nat.add_sub_cancel] at h2
   rw[show i+(d+1)=i+d+1 by omega]
   omega
theorem zcI {l:List Int} (hu:upI l l.length) {i:Nat} (hi:i<l.length):l.getD i 0≤z0U l l.length:=by
 unfold z0U
 rw[if_neg (by omega)]
 have:=zcH hu (l.length -1 -i) i (by omega)
 rwa[show i+(l.length -1 -i)=l.length -1 by omega] at this
theorem zba {l:List Int} (hu:upI l l.length): -1≤z0U l l.length∧z0U l l.length<32:=by
 unfold z0U
 split
 ·omega
 ·have:=zcG hu (l.length -1) (by omega)
  omega
set_option maxHeartbeats 8000000 in
theorem zgB (l:List Int) (hl:l.length≤16000000) (h:z4F (-1) l=true):Ct Tryz.prog 144 [I64 l] [] (.tup [z3t ((8 -(z0U l l.length+1)%8)%8) (orY l ((z0U l l.length+1+7)/8).toNat l.length),lv (.int .i64 0)]) [] []:=by
 have hu:=(zaB l).1 h
 have hlr:=zba hu
 refine z00 Tryz.func144 rfl rfl rfl rfl rfl (fun E hn hb=>?_)
 repeat refine nx ?_
 refine z09 (St.le_of (l:= [(2,.c (.ptr 66 0)),(3,lv (.int .i64 0)),(4,lv (.int .i64 (z0U l 0))),(11,I64 l),(12,lv (.int .i64 (l.length:Int))),(13,lv (.int .i64 ((0:Nat):Int))),(0,I64 l)]) (h:= [(66,.cells [.lf (.v (.int .i64 0)),.lf (.v (.slice none 0 0))])]) (by refine⟨?_,?_⟩<;>(repeat' (first | exact trivial | exact rfl | refine⟨?_,?_⟩))<;>first | exact rfl |(simp; done) | skip)) ?_
 refine z0h (ι:= {i:Nat//i≤l.length}) (fun i=>St.of [(2,.c (.ptr 66 0)),(3,lv (.int .i64 0)),(4,lv (.int .i64 (z0U l i.1))),(11,I64 l),(12,lv (.int .i64 (l.length:Int))),(13,lv (.int .i64 (i.1:Int))),(0,I64 l)] [(66,.cells [.lf (.v (.int .i64 0)),.lf (.v (.slice none 0 0))])]) (fun i=>l.length -i.1) (fun i=>?_) ⟨0,Nat.zero_le _⟩
 obtain⟨i,hi⟩:=i
 dsimp only
 by_cases hi2:i<l.length
 ·have hq:l.getD (i:Int).toNat 0=l.getD i 0:=rfl
  have hn1:z0U l (i+1)=l.getD i 0:=by unfold z0U; rw[if_neg (by omega),Nat.add_sub_cancel]
  have hui:=hu i hi2
  generalize hX:l.getD i 0=X at*
  generalize hL:z0U l i=L at*
  repeat (first | refine nx ?_ | rw[hq])
  refine z07 ⟨i+1,hi2⟩ (by dsimp only; omega) (St.le_of ⟨⟨rfl,rfl,?_,rfl,rfl,rfl,rfl⟩,rfl⟩)
  show lv (.int .i64 X)=lv (.int .i64 (z0U l (i+1)))
  rw[hn1]
 ·obtain rfl:i=l.length:=by omega
  have hge:=fun i (h:i<l.length)=>zcI hu h
  generalize z0U l l.length=L at*
  obtain⟨m,hm⟩:∃ m:Nat,(L+1+7)/8=m:=⟨((L+1+7)/8).toNat,by omega⟩
  rw[hm,Int.toNat_natCast]
  repeat refine nx ?_
  rw[hm]
  refine zaG (by_:=1) rfl rfl rfl (by rw[hn]; rfl) (z0n Tryz.underlying28 rfl rfl) rfl rfl rfl (by exact vcs) m (by first | rfl |(simp; done) | omega) (by first |(simp; done) | omega |(simp at*; omega)) ?_
  repeat refine nx ?_
  refine z09 (St.le_of (l:= [(2,.c (.ptr 66 0)),(3,lv (.int .i64 0)),(8,.c (.ptr 72 0)),(38,I64 l),(39,lv (.int .i64 (l.length:Int))),(40,lv (.int .i64 ((0:Nat):Int)))]) (h:= [(66,.cells [.lf (.v (.int .i64 0)),.lf (.v (.slice none 0 0))]),(72,.cells [.lf (.v (.int .i64 ((8 -(L+1)%8)%8))),.own 100 1 0 m]),(100,.row (.ints .u8 (orY l m 0)))]) (by refine⟨?_,?_⟩<;>(repeat' (first | exact trivial | exact rfl | refine⟨?_,?_⟩))<;>first | exact rfl |(simp; done) | skip)) ?_
  rw[show Cell.own 100 1 0 m=Cell.own 100 1 0 (orY l m 0).length by rw[z8v]]
  have hlen:=z8v l m
  refine z0h (ι:= {i:Nat//i≤l.length}) (fun i=>St.of [(2,.c (.ptr 66 0)),(3,lv (.int .i64 0)),(8,.c (.ptr 72 0)),(38,I64 l),(39,lv (.int .i64 (l.length:Int))),(40,lv (.int .i64 (i.1:Int)))] [(66,.cells [.lf (.v (.int .i64 0)),.lf (.v (.slice none 0 0))]),(72,.cells [.lf (.v (.int .i64 ((8 -(L+1)%8)%8))),.own 100 1 0 (orY l m i.1).length]),(100,.row (.ints .u8 (orY l m i.1)))]) (fun i=>l.length -i.1) (fun i=>?_) ⟨0,Nat.zero_le _⟩
  obtain⟨i,hi⟩:=i
  dsimp only
  have hli:=hlen i
  by_cases hi2:i<l.length
  ·have hq:l.getD (i:Int).toNat 0=l.getD i 0:=rfl
   have hx:=zcG hu i hi2
   have hxm:l.getD i 0/8<(m:Int):=by have:=hge i hi2; omega
   have hnx:orY l m (i+1)=stY (orY l m i) (l.getD i 0):=rfl
   generalize orY l m i=s at*
   generalize hX:l.getD i 0=X at*
   repeat (first | refine z6l [] [(11,100)] ?_ | refine zoK ?_ | refine nx ?_ | rw[hq])
   refine z07 ⟨i+1,hi2⟩ (by dsimp only; omega) (St.le_of ⟨⟨rfl,rfl,rfl,rfl,rfl,rfl⟩,⟨rfl,?_,?_⟩⟩)
   ·dsimp only; rw[hnx,show(stY s X).length=s.length by unfold stY; rw[List.length_set]]; rfl
   ·dsimp only; rw[hnx]; rfl
  ·obtain rfl:i=l.length:=by omega
   refine zxc 100 72 ?_
   repeat refine nx ?_
   exact rt1 []
end Go.Proofs.YtaagjnlkinojcaaGreat
namespace Go.Proofs.YtaagjnlkinojcaaGreat
set_option linter.unusedSimpArgs false
set_option linter.unusedVariables false
open Go Go.Sx
set_option maxRecDepth 100000
def z9h:List Int→List (List Int)
 | []=> [[]]
 | x::xs=>z9h xs++(z9h xs).map (x:: ·)
def zbP (lo:Int):Nat→List Int
 | 0=> []
 | n+1=>(lo+1)::zbP (lo+1) n
theorem zcJ:∀ xs:List Int,[] ∈ z9h xs
 | []=>by simp[z9h]
 | x::xs=>List.mem_append_left _ (zcJ xs)
theorem zaC:∀(n:Nat) (lo:Int) (l:List Int),lo+n=8→z30 lo l=true→l ∈ z9h (zbP lo n)
 | n,lo,[],_,_=>zcJ _
 | 0,lo,x::l,h,hr=>by
   simp only[z30,Bool.and_eq_true,decide_eq_true_iff] at hr
   omega
 | n+1,lo,x::l,h,hr=>by
   have h1:=hr
   simp only[z30,Bool.and_eq_true,decide_eq_true_iff] at h1
   rw[zbP,z9h]
   by_cases hx:x=lo+1
   ·subst hx
    exact List.mem_append_right _ (List.mem_map.2 ⟨l,zaC n (lo+1) l (by omega) h1.2,rfl⟩)
   ·refine List.mem_append_left _ (zaC n (lo+1) (x::l) (by omega) ?_)
    simp only[z30,Bool.and_eq_true,decide_eq_true_iff]
    exact⟨⟨by omega,h1.1.2⟩,h1.2⟩
theorem z4j {p:List Int→Bool} (h:(z9h (zbP (-1) 9)).all p=true) {l:List Int} (hr:z0Z l=true):p l=true:=
 List.all_eq_true.1 h l (zaC 9 (-1) l (by decide) hr)
def flC (l:List Int):List Int:=
 let m:=l.getLastD (-1)
 let b:=l.foldr (fun x s=>if x≤7 then s+2^(7 -x).toNat else s) 0
 if m≤7 then [7 -m,b] else [7,b,128]
theorem zgC {l:List Int} (h:z0Z l=true) (hne:l≠ []):z2b (flC l)=(l,(flC l).length,0):=by
 have:=z4j (p:=fun l=>l.isEmpty||decide (z2b (flC l)=(l,(flC l).length,0))) (by decide+kernel) h
 rcases Bool.or_eq_true_iff.1 this with h1 | h1
 ·exact absurd (List.isEmpty_iff.1 h1) hne
 ·exact of_decide_eq_true h1
theorem z9Q {l:List Int} (h:z0Z l=true) (hne:l≠ []):WfB (flC l)∧(flC l).length≤3:=by
 have:=z4j (p:=fun l=>l.isEmpty||((flC l).all (fun x=>decide (0≤x∧x<256))&&decide ((flC l).length≤3))) (by decide+kernel) h
 rcases Bool.or_eq_true_iff.1 this with h1 | h1
 ·exact absurd (List.isEmpty_iff.1 h1) hne
 ·rw[Bool.and_eq_true,List.all_eq_true] at h1
  exact⟨fun x hx=>of_decide_eq_true (h1.1 x hx),of_decide_eq_true h1.2⟩
def uOf (l:List Int):Int:=(8 -(z0U l l.length+1)%8)%8
def bOf (l:List Int):List Int:=orY l ((z0U l l.length+1+7)/8).toNat l.length
theorem ziJ {l:List Int} (h:z0Z l=true) (hne:l≠ []):z4F (-1) l=true∧z0P (uOf l) (bOf l)=true∧uOf l::bOf l=flC l:=by
 have:=z4j (p:=fun l=>l.isEmpty||(z4F (-1) l&&z0P (uOf l) (bOf l)&&decide (uOf l::bOf l=flC l))) (by decide+kernel) h
 rcases Bool.or_eq_true_iff.1 this with h1 | h1
 ·exact absurd (List.isEmpty_iff.1 h1) hne
 ·rw[Bool.and_eq_true,Bool.and_eq_true] at h1
  exact⟨h1.1.1,h1.1.2,of_decide_eq_true h1.2⟩
def z1d:List Int→List Int→List Int
 | acc,[]=>acc
 | acc,x::l=>z1d (acc++List.replicate (x.toNat -acc.length) 0++ [1]) l
def z3b (b:List Int):Nat:=(8 -b.length%8)%8
def z1k (b:List Int) (i:Nat):Nat→Int
 | 0=>0
 | k+1=>2*z1k b i k+b.getD (i+k) 0
def z6y (b:List Int):List Int:=(List.range (b.length/8)).map fun i=>z1k b (8*i) 8
def z1y (l:List Int):List Int:=z1d [] l++List.replicate (z3b (z1d [] l)) 0
theorem zgD {l:List Int} (h:z0Z l=true) (hne:l≠ []):((z3b (z1d [] l):Nat):Int)::z6y (z1y l)=flC l:=by
 have:=z4j (p:=fun l=>l.isEmpty||decide (((z3b (z1d [] l):Nat):Int)::z6y (z1y l)=flC l)) (by decide+kernel) h
 rcases Bool.or_eq_true_iff.1 this with h1 | h1
 ·exact absurd (List.isEmpty_iff.1 h1) hne
 ·exact of_decide_eq_true h1
end Go.Proofs.YtaagjnlkinojcaaGreat

/-
  Chapter 5: the string of flags. The conditions: rows of numbers that a machine can hold.
-/
import Derived.Test.YtaagjnlkinojcaaGreatN1
import Derived.Test.YtaagjnlkinojcaaGreatQ14
import Derived.Test.YtaagjnlkinojcaaGreatP0
import Derived.Test.YtaagjnlkinojcaaGreatQ5
namespace Go.Proofs.YtaagjnlkinojcaaGreat
set_option linter.unusedSimpArgs false
set_option linter.unusedVariables false
open Go.Sx
set_option maxRecDepth 10000
abbrev blV (b:Bool):Av:=lv (.bool b)
theorem z7d (x:List Int) (hl:x.length≤16000000):Ct Tryz.prog 91 [.c (.ptr 0 0)] [z04 x 0] (.tup [lv (.bool (z1E x).1),lv (.int .i64 (z1E x).2.2)]) [z04 x (z1E x).2.1] []:=by
 have hre:=z6B x 0 (Nat.zero_le _) hl
 rw[List.drop_zero] at hre
 unfold z1E
 match x,hre with
 | [],hre=>
   rw[if_neg (by simp)]
   refine z00 Tryz.func91 rfl rfl rfl rfl rfl (fun E hn hb=>?_)
   repeat refine nx ?_
   exact rt1 []
 | [u],hre=>
   by_cases h1:u=255
   ·subst h1
    rw[if_pos rfl]
    refine z00 Tryz.func91 rfl rfl rfl rfl rfl (fun E hn hb=>?_)
    repeat refine nx ?_
    exact rt1 []
   ·rw[if_neg (by simp[h1])]
    refine z00 Tryz.func91 rfl rfl rfl rfl rfl (fun E hn hb=>?_)
    repeat refine nx ?_
    exact rt1 []
 | u::v::t,hre=>
   rw[if_neg (by simp)]
   refine z00 Tryz.func91 rfl rfl rfl rfl rfl (fun E hn hb=>?_)
   repeat refine nx ?_
   exact rt1 []
theorem ziY (x:List Int) (hl:x.length≤11880000) (hw:WfB x):Ct Tryz.prog 114 [.c (.ptr 0 0)] [z04 x 0] (.tup [z3m (z3s x).1,lv (.int .i64 (z3s x).2.2)]) [z04 x (z3s x).2.1] []:=by
 have hre:=z6B x 0 (Nat.zero_le _) (by omega)
 rw[List.drop_zero] at hre
 have hho:=z1d 17
 have hwr:=z6N (ofT 17) [x] (by decide) (by simp) (by simp; omega)
 rw[show [x].flatten=x by simp] at hwr
 have hwl:=z0s (ofT 17) x
 have hcn:=z2l (z05 (ofT 17) x) (by omega)
 have hrd:=zfm (z05 (ofT 17) x) 0 (Nat.zero_le _) (by omega) (z1I _ _ (by decide) hw)
 unfold z3s
 generalize z05 (ofT 17) x=W at*
 generalize z2e W 0=R at*
 obtain⟨r,q,e⟩:=R
 dsimp only at*
 refine z00 Tryz.func114 rfl rfl rfl rfl rfl (fun E hn hb=>?_)
 repeat refine nx ?_
 exact rt1 []
set_option maxHeartbeats 4000000 in
theorem zcK (l:List Int) (p:Nat) (n:Int) (b:Bool) (g:Nat) (rd:List Int→List GnT×Nat×Int) (hp:p≤l.length) (hl:l.length≤11880000) (hw:WfB l) (hs:∀ x,(rd x).2.1≤x.length)
  (hrd:∀ x:List Int,x.length≤l.length→WfB x→Ct Tryz.prog g [.c (.ptr 0 0)] [z04 x 0] (.tup [gnV (rd x).1,lv (.int .i64 (rd x).2.2)]) [z04 x (rd x).2.1] []):
  Ct Tryz.prog 112 [.c (.ptr 0 0),lv (.int .i64 n),lv (.bool b),.c (.fn (.func g) [] [])] [z04 l p] (.tup [gnV (z0i [] l p (2,n,b) rd).1,lv (.int .i64 (z0i [] l p (2,n,b) rd).2.2)]) [z04 l (z0i [] l p (2,n,b) rd).2.1] []:=by
 have ht:=z1j n b
 have hi:=z2W l p (2,n,b) hp (by omega) hw
 have hop:=z26 l p (2,n,b) hp (by omega) hw
 have hoe:=z2s l p (2,n,b) hp (by omega) hw
 have hmem:=z0H l p (2,n,b)
 change Ct _ _ _ _ (lv (.bool (isH l p (2,n,b)))) _ _ at hi
 unfold z0i
 by_cases h:isH l p (2,n,b)=true
 ·rw[h] at hi
  rw[if_pos h]
  generalize z0r l p (2,n,b)=X at*
  obtain⟨x,q,e⟩:=X
  dsimp only at*
  by_cases he:e=0
  ·subst he
   have hop:=hop rfl
   rw[if_pos rfl]
   have hr:=hrd x hmem.1 (fun z hz=>hw z (hmem.2 z hz))
   have hsx:=hs x
   generalize rd x=R at*
   obtain⟨r,s,f⟩:=R
   dsimp only at*
   by_cases hf:f=0
   ·subst hf
    rw[if_pos rfl]
    have hlf:=z0S x s hsx (by omega)
    by_cases hlt:s<x.length
    ·rw[if_pos hlt]
     refine z00 Tryz.func112 rfl rfl rfl rfl rfl (fun E hn hb=>?_)
     repeat refine nx ?_
     exact rtU []
    ·rw[if_neg hlt]
     refine z00 Tryz.func112 rfl rfl rfl rfl rfl (fun E hn hb=>?_)
     repeat refine nx ?_
     exact rt1 []
   ·rw[if_neg hf]
    refine z00 Tryz.func112 rfl rfl rfl rfl rfl (fun E hn hb=>?_)
    repeat refine nx ?_
    exact rtU []
  ·have hoe:=hoe he
   rw[if_neg he]
   refine z00 Tryz.func112 rfl rfl rfl rfl rfl (fun E hn hb=>?_)
   repeat refine nx ?_
   exact rtU []
 ·rw[Bool.eq_false_iff.2 h] at hi
  rw[if_neg h]
  refine z00 Tryz.func112 rfl rfl rfl rfl rfl (fun E hn hb=>?_)
  repeat refine nx ?_
  exact rtU []
set_option maxHeartbeats 4000000 in
theorem ziZ (l:List Int) (p:Nat) (n:Int) (b:Bool) (g:Nat) (rd:List Int→List AtT×Nat×Int) (hp:p≤l.length) (hl:l.length≤11880000) (hw:WfB l) (hs:∀ x,(rd x).2.1≤x.length)
  (hrd:∀ x:List Int,x.length≤l.length→WfB x→Ct Tryz.prog g [.c (.ptr 0 0)] [z04 x 0] (.tup [z3m (rd x).1,lv (.int .i64 (rd x).2.2)]) [z04 x (rd x).2.1] []):
  Ct Tryz.prog 113 [.c (.ptr 0 0),lv (.int .i64 n),lv (.bool b),.c (.fn (.func g) [] [])] [z04 l p] (.tup [z3m (z0i [] l p (2,n,b) rd).1,lv (.int .i64 (z0i [] l p (2,n,b) rd).2.2)]) [z04 l (z0i [] l p (2,n,b) rd).2.1] []:=by
 have ht:=z1j n b
 have hi:=z2W l p (2,n,b) hp (by omega) hw
 have hop:=z26 l p (2,n,b) hp (by omega) hw
 have hoe:=z2s l p (2,n,b) hp (by omega) hw
 have hmem:=z0H l p (2,n,b)
 change Ct _ _ _ _ (lv (.bool (isH l p (2,n,b)))) _ _ at hi
 unfold z0i
 by_cases h:isH l p (2,n,b)=true
 ·rw[h] at hi
  rw[if_pos h]
  generalize z0r l p (2,n,b)=X at*
  obtain⟨x,q,e⟩:=X
  dsimp only at*
  by_cases he:e=0
  ·subst he
   have hop:=hop rfl
   rw[if_pos rfl]
   have hr:=hrd x hmem.1 (fun z hz=>hw z (hmem.2 z hz))
   have hsx:=hs x
   generalize rd x=R at*
   obtain⟨r,s,f⟩:=R
   dsimp only at*
   by_cases hf:f=0
   ·subst hf
    rw[if_pos rfl]
    have hlf:=z0S x s hsx (by omega)
    by_cases hlt:s<x.length
    ·rw[if_pos hlt]
     refine z00 Tryz.func113 rfl rfl rfl rfl rfl (fun E hn hb=>?_)
     repeat refine nx ?_
     exact rtU []
    ·rw[if_neg hlt]
     refine z00 Tryz.func113 rfl rfl rfl rfl rfl (fun E hn hb=>?_)
     repeat refine nx ?_
     exact rt1 []
   ·rw[if_neg hf]
    refine z00 Tryz.func113 rfl rfl rfl rfl rfl (fun E hn hb=>?_)
    repeat refine nx ?_
    exact rtU []
  ·have hoe:=hoe he
   rw[if_neg he]
   refine z00 Tryz.func113 rfl rfl rfl rfl rfl (fun E hn hb=>?_)
   repeat refine nx ?_
   exact rtU []
 ·rw[Bool.eq_false_iff.2 h] at hi
  rw[if_neg h]
  refine z00 Tryz.func113 rfl rfl rfl rfl rfl (fun E hn hb=>?_)
  repeat refine nx ?_
  exact rtU []
set_option maxHeartbeats 4000000 in
theorem zj0 (l:List Int) (p:Nat) (n:Int) (b:Bool) (g:Nat) (rd:List Int→List Int×Nat×Int) (hp:p≤l.length) (hl:l.length≤11880000) (hw:WfB l) (hs:∀ x,(rd x).2.1≤x.length)
  (hrd:∀ x:List Int,x.length≤l.length→WfB x→Ct Tryz.prog g [.c (.ptr 0 0)] [z04 x 0] (.tup [I64 (rd x).1,lv (.int .i64 (rd x).2.2)]) [z04 x (rd x).2.1] []):
  Ct Tryz.prog 115 [.c (.ptr 0 0),lv (.int .i64 n),lv (.bool b),.c (.fn (.func g) [] [])] [z04 l p] (.tup [I64 (z0i [] l p (2,n,b) rd).1,lv (.int .i64 (z0i [] l p (2,n,b) rd).2.2)]) [z04 l (z0i [] l p (2,n,b) rd).2.1] []:=by
 have ht:=z1j n b
 have hi:=z2W l p (2,n,b) hp (by omega) hw
 have hop:=z26 l p (2,n,b) hp (by omega) hw
 have hoe:=z2s l p (2,n,b) hp (by omega) hw
 have hmem:=z0H l p (2,n,b)
 change Ct _ _ _ _ (lv (.bool (isH l p (2,n,b)))) _ _ at hi
 unfold z0i
 by_cases h:isH l p (2,n,b)=true
 ·rw[h] at hi
  rw[if_pos h]
  generalize z0r l p (2,n,b)=X at*
  obtain⟨x,q,e⟩:=X
  dsimp only at*
  by_cases he:e=0
  ·subst he
   have hop:=hop rfl
   rw[if_pos rfl]
   have hr:=hrd x hmem.1 (fun z hz=>hw z (hmem.2 z hz))
   have hsx:=hs x
   generalize rd x=R at*
   obtain⟨r,s,f⟩:=R
   dsimp only at*
   by_cases hf:f=0
   ·subst hf
    rw[if_pos rfl]
    have hlf:=z0S x s hsx (by omega)
    by_cases hlt:s<x.length
    ·rw[if_pos hlt]
     refine z00 Tryz.func115 rfl rfl rfl rfl rfl (fun E hn hb=>?_)
     repeat refine nx ?_
     exact rtU []
    ·rw[if_neg hlt]
     refine z00 Tryz.func115 rfl rfl rfl rfl rfl (fun E hn hb=>?_)
     repeat refine nx ?_
     exact rt1 []
   ·rw[if_neg hf]
    refine z00 Tryz.func115 rfl rfl rfl rfl rfl (fun E hn hb=>?_)
    repeat refine nx ?_
    exact rtU []
  ·have hoe:=hoe he
   rw[if_neg he]
   refine z00 Tryz.func115 rfl rfl rfl rfl rfl (fun E hn hb=>?_)
   repeat refine nx ?_
   exact rtU []
 ·rw[Bool.eq_false_iff.2 h] at hi
  rw[if_neg h]
  refine z00 Tryz.func115 rfl rfl rfl rfl rfl (fun E hn hb=>?_)
  repeat refine nx ?_
  exact rtU []
set_option maxHeartbeats 4000000 in
theorem zj1 (l:List Int) (p:Nat) (n:Int) (b:Bool) (g:Nat) (rd:List Int→Bool×Nat×Int) (hp:p≤l.length) (hl:l.length≤11880000) (hw:WfB l) (hs:∀ x,(rd x).2.1≤x.length)
  (hrd:∀ x:List Int,x.length≤l.length→WfB x→Ct Tryz.prog g [.c (.ptr 0 0)] [z04 x 0] (.tup [blV (rd x).1,lv (.int .i64 (rd x).2.2)]) [z04 x (rd x).2.1] []):
  Ct Tryz.prog 149 [.c (.ptr 0 0),lv (.int .i64 n),lv (.bool b),.c (.fn (.func g) [] [])] [z04 l p] (.tup [blV (z0i false l p (2,n,b) rd).1,lv (.int .i64 (z0i false l p (2,n,b) rd).2.2)]) [z04 l (z0i false l p (2,n,b) rd).2.1] []:=by
 have ht:=z1j n b
 have hi:=z2W l p (2,n,b) hp (by omega) hw
 have hop:=z26 l p (2,n,b) hp (by omega) hw
 have hoe:=z2s l p (2,n,b) hp (by omega) hw
 have hmem:=z0H l p (2,n,b)
 change Ct _ _ _ _ (lv (.bool (isH l p (2,n,b)))) _ _ at hi
 unfold z0i
 by_cases h:isH l p (2,n,b)=true
 ·rw[h] at hi
  rw[if_pos h]
  generalize z0r l p (2,n,b)=X at*
  obtain⟨x,q,e⟩:=X
  dsimp only at*
  by_cases he:e=0
  ·subst he
   have hop:=hop rfl
   rw[if_pos rfl]
   have hr:=hrd x hmem.1 (fun z hz=>hw z (hmem.2 z hz))
   have hsx:=hs x
   generalize rd x=R at*
   obtain⟨r,s,f⟩:=R
   dsimp only at*
   by_cases hf:f=0
   ·subst hf
    rw[if_pos rfl]
    have hlf:=z0S x s hsx (by omega)
    by_cases hlt:s<x.length
    ·rw[if_pos hlt]
     refine z00 Tryz.func149 rfl rfl rfl rfl rfl (fun E hn hb=>?_)
     repeat refine nx ?_
     exact rt1 []
    ·rw[if_neg hlt]
     refine z00 Tryz.func149 rfl rfl rfl rfl rfl (fun E hn hb=>?_)
     repeat refine nx ?_
     exact rt1 []
   ·rw[if_neg hf]
    refine z00 Tryz.func149 rfl rfl rfl rfl rfl (fun E hn hb=>?_)
    repeat refine nx ?_
    exact rt1 []
  ·have hoe:=hoe he
   rw[if_neg he]
   refine z00 Tryz.func149 rfl rfl rfl rfl rfl (fun E hn hb=>?_)
   repeat refine nx ?_
   exact rt1 []
 ·rw[Bool.eq_false_iff.2 h] at hi
  rw[if_neg h]
  refine z00 Tryz.func149 rfl rfl rfl rfl rfl (fun E hn hb=>?_)
  repeat refine nx ?_
  exact rt1 []
def z0O {α:Type} (z:α) (e:Int) (l:List Int) (p:Nat) (t:z0h) (rd:List Int→α×Nat×Int):α×Nat×Int:=if e=0 then z0i z l p t rd else(z,p,e)
theorem zj2 (l:List Int) (p:Nat) (n:Int) (b:Bool) (g:Nat) (e:Int) (rd:List Int→List GnT×Nat×Int) (hp:p≤l.length) (hl:l.length≤11880000) (hw:WfB l) (hs:∀ x,(rd x).2.1≤x.length)
  (hrd:∀ x:List Int,x.length≤l.length→WfB x→Ct Tryz.prog g [.c (.ptr 0 0)] [z04 x 0] (.tup [gnV (rd x).1,lv (.int .i64 (rd x).2.2)]) [z04 x (rd x).2.1] []):
  Ct Tryz.prog 55 [.c (.ptr 0 0),lv (.int .i64 n),lv (.bool b),.c (.fn (.func g) [] [])] [z2d e,z04 l p] (gnV (z0O [] e l p (2,n,b) rd).1) [z2d (z0O [] e l p (2,n,b) rd).2.2,z04 l (z0O [] e l p (2,n,b) rd).2.1] []:=by
 have h:=zcK l p n b g rd hp hl hw hs hrd
 unfold z0O
 by_cases he:e=0
 ·subst he
  rw[if_pos rfl]
  generalize z0i [] l p (2,n,b) rd=R at*
  obtain⟨r,q,f⟩:=R
  dsimp only at*
  refine z00 Tryz.func55 rfl rfl rfl rfl rfl (fun E hn hb=>?_)
  repeat refine nx ?_
  exact rt1 []
 ·rw[if_neg he]
  refine z00 Tryz.func55 rfl rfl rfl rfl rfl (fun E hn hb=>?_)
  repeat refine nx ?_
  exact rtU []
theorem zcL (l:List Int) (p:Nat) (n:Int) (b:Bool) (g:Nat) (e:Int) (rd:List Int→List Int×Nat×Int) (hp:p≤l.length) (hl:l.length≤11880000) (hw:WfB l) (hs:∀ x,(rd x).2.1≤x.length)
  (hrd:∀ x:List Int,x.length≤l.length→WfB x→Ct Tryz.prog g [.c (.ptr 0 0)] [z04 x 0] (.tup [I64 (rd x).1,lv (.int .i64 (rd x).2.2)]) [z04 x (rd x).2.1] []):
  Ct Tryz.prog 53 [.c (.ptr 0 0),lv (.int .i64 n),lv (.bool b),.c (.fn (.func g) [] [])] [z2d e,z04 l p] (I64 (z0O [] e l p (2,n,b) rd).1) [z2d (z0O [] e l p (2,n,b) rd).2.2,z04 l (z0O [] e l p (2,n,b) rd).2.1] []:=by
 have h:=zj0 l p n b g rd hp hl hw hs hrd
 unfold z0O
 by_cases he:e=0
 ·subst he
  rw[if_pos rfl]
  generalize z0i [] l p (2,n,b) rd=R at*
  obtain⟨r,q,f⟩:=R
  dsimp only at*
  refine z00 Tryz.func53 rfl rfl rfl rfl rfl (fun E hn hb=>?_)
  repeat refine nx ?_
  exact rt1 []
 ·rw[if_neg he]
  refine z00 Tryz.func53 rfl rfl rfl rfl rfl (fun E hn hb=>?_)
  repeat refine nx ?_
  exact rtU []
theorem z7e (l:List Int) (p:Nat) (n:Int) (b:Bool) (g:Nat) (e:Int) (rd:List Int→Bool×Nat×Int) (hp:p≤l.length) (hl:l.length≤11880000) (hw:WfB l) (hs:∀ x,(rd x).2.1≤x.length)
  (hrd:∀ x:List Int,x.length≤l.length→WfB x→Ct Tryz.prog g [.c (.ptr 0 0)] [z04 x 0] (.tup [blV (rd x).1,lv (.int .i64 (rd x).2.2)]) [z04 x (rd x).2.1] []):
  Ct Tryz.prog 90 [.c (.ptr 0 0),lv (.int .i64 n),lv (.bool b),.c (.fn (.func g) [] [])] [z2d e,z04 l p] (blV (z0O false e l p (2,n,b) rd).1) [z2d (z0O false e l p (2,n,b) rd).2.2,z04 l (z0O false e l p (2,n,b) rd).2.1] []:=by
 have h:=zj1 l p n b g rd hp hl hw hs hrd
 unfold z0O
 by_cases he:e=0
 ·subst he
  rw[if_pos rfl]
  generalize z0i false l p (2,n,b) rd=R at*
  obtain⟨r,q,f⟩:=R
  dsimp only at*
  refine z00 Tryz.func90 rfl rfl rfl rfl rfl (fun E hn hb=>?_)
  repeat refine nx ?_
  exact rt1 []
 ·rw[if_neg he]
  refine z00 Tryz.func90 rfl rfl rfl rfl rfl (fun E hn hb=>?_)
  repeat refine nx ?_
  exact rt1 []
def z4G (lo:Int):List Int→Bool
 | []=>true
 | x::l=>decide (lo<x)&&decide (x<32)&&z4G x l
def z0R (l:List Int) (i:Nat):Int:=if i=0 then -1 else l.getD (i -1) 0
def upI (l:List Int) (i:Nat):Prop:=∀ j,j<i→z0R l j<l.getD j 0∧l.getD j 0<32
theorem zcM:∀(l:List Int) (lo:Int),z4G lo l=true↔∀ j,j<l.length→(if j=0 then lo else l.getD (j -1) 0)<l.getD j 0∧l.getD j 0<32
 | [],lo=>by simp[z4G]
 | x::l,lo=>by
   have ih:=zcM l x
   rw[z4G,Bool.and_eq_true,Bool.and_eq_true,decide_eq_true_eq,decide_eq_true_eq,ih]
   constructor
   ·rintro⟨⟨h1,h2⟩,h3⟩ j hj
    cases j with
    | zero=>exact⟨h1,h2⟩
    | succ j=>
      have:=h3 j (by simpa using hj)
      cases j with
      | zero=>exact this
      | succ j=>exact this
   ·intro h
    refine⟨h 0 (by simp),fun j hj=>?_⟩
    have:=h (j+1) (by simpa using hj)
    cases j with
    | zero=>exact this
    | succ j=>exact this
theorem zaw (l:List Int):z4G (-1) l=true↔upI l l.length:=zcM l (-1)
theorem zcN {l:List Int} {i:Nat} (h:upI l i):∀ j,j<i→0≤l.getD j 0∧l.getD j 0<32
 | 0,hj=>by
   have:=h 0 hj
   unfold z0R at this
   rw[if_pos rfl] at this
   omega
 | j+1,hj=>by
   have:=zcN h j (by omega)
   have:=h (j+1) hj
   unfold z0R at this
   rw[if_neg (by omega),Nat.add_sub_cancel] at this
   omega
theorem zkU (l:List Int) (hl:l.length≤16000000) (h:z4G (-1) l=false):Ct Tryz.prog 144 [I64 l] [] (.tup [z4e 0 [],lv (.int .i64 1)]) [] []:=by
 have hS:=zaw l
 rw[h] at hS
 refine z00 Tryz.func144 rfl rfl rfl rfl rfl (fun E hn hb=>?_)
 repeat refine nx ?_
 refine z09 (St.le_of (l:= [(2,.c (.ptr 66 0)),(3,lv (.int .i64 0)),(4,lv (.int .i64 (z0R l 0))),(11,I64 l),(12,lv (.int .i64 (l.length:Int))),(13,lv (.int .i64 ((0:Nat):Int)))]) (h:= [(66,.cells [.lf (.v (.int .i64 0)),.lf (.v (.slice none 0 0))])]) (by refine⟨?_,?_⟩<;>(repeat' (first | exact trivial | exact rfl | refine⟨?_,?_⟩))<;>first | exact rfl |(simp; done) | skip)) ?_
 refine z0k (ι:= {i:Nat//i≤l.length∧upI l i}) (fun i=>St.of [(2,.c (.ptr 66 0)),(3,lv (.int .i64 0)),(4,lv (.int .i64 (z0R l i.1))),(11,I64 l),(12,lv (.int .i64 (l.length:Int))),(13,lv (.int .i64 (i.1:Int)))] [(66,.cells [.lf (.v (.int .i64 0)),.lf (.v (.slice none 0 0))])]) (fun i=>l.length -i.1) (fun i=>?_) ⟨0,Nat.zero_le _,fun j hj=>by omega⟩
 obtain⟨i,hi,hu⟩:=i
 dsimp only
 by_cases hi2:i<l.length
 ·have hq:l.getD (i:Int).toNat 0=l.getD i 0:=rfl
  have hn1:z0R l (i+1)=l.getD i 0:=by unfold z0R; rw[if_neg (by omega),Nat.add_sub_cancel]
  generalize hX:l.getD i 0=X at*
  generalize hL:z0R l i=L at*
  by_cases h1:X≤L
  ·repeat (first | refine nx ?_ | rw[hq])
   refine rtU [] (hu:=?_)
   exact⟨⟨.inl rfl,.inr ⟨rfl,.inl ⟨_,rfl⟩⟩,trivial⟩,.inl rfl,trivial⟩
  ·by_cases h2:32≤X
   ·repeat (first | refine nx ?_ | rw[hq])
    refine rtU [] (hu:=?_)
    exact⟨⟨.inl rfl,.inr ⟨rfl,.inl ⟨_,rfl⟩⟩,trivial⟩,.inl rfl,trivial⟩
   ·repeat (first | refine nx ?_ | rw[hq])
    refine z08 ⟨i+1,hi2,fun j hj=>by
     by_cases e:j=i
     ·subst e; rw[hX,hL]; omega
     ·exact hu j (by omega)⟩ (by dsimp only; omega) (St.le_of ⟨⟨rfl,rfl,?_,rfl,rfl,rfl⟩,rfl⟩)
    show lv (.int .i64 X)=lv (.int .i64 (z0R l (i+1)))
    rw[hn1]
 ·obtain rfl:i=l.length:=by omega
  exact absurd (hS.2 hu) (by simp)
def stV (c x:Int):Int:=Go.IntKind.u8.wrap (BitVec.ofInt Go.IntKind.u8.bits c||| BitVec.ofInt Go.IntKind.u8.bits (128/2^min (x%8).toNat Go.IntKind.u8.bits)).toNat
def stY (s:List Int) (x:Int):List Int:=s.set (0+(x/8).toNat) (stV (s.getD (0+(x/8).toNat) 0) x)
def orY (l:List Int) (m:Nat):Nat→List Int
 | 0=>List.replicate m 0
 | i+1=>stY (orY l m i) (l.getD i 0)
theorem z8C (l:List Int) (m:Nat):∀ i,(orY l m i).length=m
 | 0=>by simp[orY]
 | i+1=>by rw[orY,stY,List.length_set,z8C l m i]
theorem zcO {l:List Int} (hu:upI l l.length):∀(d i:Nat),i+d<l.length→l.getD i 0≤l.getD (i+d) 0
 | 0,i,_=>by simp
 | d+1,i,h=>by
   have h1:=zcO hu d i (by omega)
   have h2:=(hu (i+d+1) (by omega)).1
   unfold z0R at h2
   rw[if_neg (by omega),Nat.add_sub_cancel] at h2
   rw[show i+(d+1)=i+d+1 by omega]
   omega
theorem zcP {l:List Int} (hu:upI l l.length) {i:Nat} (hi:i<l.length):l.getD i 0≤z0R l l.length:=by
 unfold z0R
 rw[if_neg (by omega)]
 have:=zcO hu (l.length -1 -i) i (by omega)
 rwa[show i+(l.length -1 -i)=l.length -1 by omega] at this
theorem zbd {l:List Int} (hu:upI l l.length): -1≤z0R l l.length∧z0R l l.length<32:=by
 unfold z0R
 split
 ·omega
 ·have:=zcN hu (l.length -1) (by omega)
  omega
set_option maxHeartbeats 8000000 in
theorem zh2 (l:List Int) (hl:l.length≤16000000) (h:z4G (-1) l=true):Ct Tryz.prog 144 [I64 l] [] (.tup [z4e ((8 -(z0R l l.length+1)%8)%8) (orY l ((z0R l l.length+1+7)/8).toNat l.length),lv (.int .i64 0)]) [] []:=by
 have hu:=(zaw l).1 h
 have hlr:=zbd hu
 refine z00 Tryz.func144 rfl rfl rfl rfl rfl (fun E hn hb=>?_)
 repeat refine nx ?_
 refine z09 (St.le_of (l:= [(2,.c (.ptr 66 0)),(3,lv (.int .i64 0)),(4,lv (.int .i64 (z0R l 0))),(11,I64 l),(12,lv (.int .i64 (l.length:Int))),(13,lv (.int .i64 ((0:Nat):Int))),(0,I64 l)]) (h:= [(66,.cells [.lf (.v (.int .i64 0)),.lf (.v (.slice none 0 0))])]) (by refine⟨?_,?_⟩<;>(repeat' (first | exact trivial | exact rfl | refine⟨?_,?_⟩))<;>first | exact rfl |(simp; done) | skip)) ?_
 refine z0k (ι:= {i:Nat//i≤l.length}) (fun i=>St.of [(2,.c (.ptr 66 0)),(3,lv (.int .i64 0)),(4,lv (.int .i64 (z0R l i.1))),(11,I64 l),(12,lv (.int .i64 (l.length:Int))),(13,lv (.int .i64 (i.1:Int))),(0,I64 l)] [(66,.cells [.lf (.v (.int .i64 0)),.lf (.v (.slice none 0 0))])]) (fun i=>l.length -i.1) (fun i=>?_) ⟨0,Nat.zero_le _⟩
 obtain⟨i,hi⟩:=i
 dsimp only
 by_cases hi2:i<l.length
 ·have hq:l.getD (i:Int).toNat 0=l.getD i 0:=rfl
  have hn1:z0R l (i+1)=l.getD i 0:=by unfold z0R; rw[if_neg (by omega),Nat.add_sub_cancel]
  have hui:=hu i hi2
  generalize hX:l.getD i 0=X at*
  generalize hL:z0R l i=L at*
  repeat (first | refine nx ?_ | rw[hq])
  refine z08 ⟨i+1,hi2⟩ (by dsimp only; omega) (St.le_of ⟨⟨rfl,rfl,?_,rfl,rfl,rfl,rfl⟩,rfl⟩)
  show lv (.int .i64 X)=lv (.int .i64 (z0R l (i+1)))
  rw[hn1]
 ·obtain rfl:i=l.length:=by omega
  have hge:=fun i (h:i<l.length)=>zcP hu h
  generalize z0R l l.length=L at*
  obtain⟨m,hm⟩:∃ m:Nat,(L+1+7)/8=m:=⟨((L+1+7)/8).toNat,by omega⟩
  rw[hm,Int.toNat_natCast]
  repeat refine nx ?_
  rw[hm]
  refine zau (by_:=1) rfl rfl rfl (by rw[hn]; rfl) (z0n Tryz.underlying28 rfl rfl) rfl rfl rfl (by exact vcs) m (by first | rfl |(simp; done) | omega) (by first |(simp; done) | omega |(simp at*; omega)) ?_
  repeat refine nx ?_
  refine z09 (St.le_of (l:= [(2,.c (.ptr 66 0)),(3,lv (.int .i64 0)),(8,.c (.ptr 72 0)),(38,I64 l),(39,lv (.int .i64 (l.length:Int))),(40,lv (.int .i64 ((0:Nat):Int)))]) (h:= [(66,.cells [.lf (.v (.int .i64 0)),.lf (.v (.slice none 0 0))]),(72,.cells [.lf (.v (.int .i64 ((8 -(L+1)%8)%8))),.own 100 1 0 m]),(100,.row (.ints .u8 (orY l m 0)))]) (by refine⟨?_,?_⟩<;>(repeat' (first | exact trivial | exact rfl | refine⟨?_,?_⟩))<;>first | exact rfl |(simp; done) | skip)) ?_
  rw[show Cell.own 100 1 0 m=Cell.own 100 1 0 (orY l m 0).length by rw[z8C]]
  have hlen:=z8C l m
  refine z0k (ι:= {i:Nat//i≤l.length}) (fun i=>St.of [(2,.c (.ptr 66 0)),(3,lv (.int .i64 0)),(8,.c (.ptr 72 0)),(38,I64 l),(39,lv (.int .i64 (l.length:Int))),(40,lv (.int .i64 (i.1:Int)))] [(66,.cells [.lf (.v (.int .i64 0)),.lf (.v (.slice none 0 0))]),(72,.cells [.lf (.v (.int .i64 ((8 -(L+1)%8)%8))),.own 100 1 0 (orY l m i.1).length]),(100,.row (.ints .u8 (orY l m i.1)))]) (fun i=>l.length -i.1) (fun i=>?_) ⟨0,Nat.zero_le _⟩
  obtain⟨i,hi⟩:=i
  dsimp only
  have hli:=hlen i
  by_cases hi2:i<l.length
  ·have hq:l.getD (i:Int).toNat 0=l.getD i 0:=rfl
   have hx:=zcN hu i hi2
   have hxm:l.getD i 0/8<(m:Int):=by have:=hge i hi2; omega
   have hnx:orY l m (i+1)=stY (orY l m i) (l.getD i 0):=rfl
   generalize orY l m i=s at*
   generalize hX:l.getD i 0=X at*
   repeat (first | refine z6x [] [(11,100)] ?_ | refine zoR ?_ | refine nx ?_ | rw[hq])
   refine z08 ⟨i+1,hi2⟩ (by dsimp only; omega) (St.le_of ⟨⟨rfl,rfl,rfl,rfl,rfl,rfl⟩,⟨rfl,?_,?_⟩⟩)
   ·dsimp only; rw[hnx,show(stY s X).length=s.length by unfold stY; rw[List.length_set]]; rfl
   ·dsimp only; rw[hnx]; rfl
  ·obtain rfl:i=l.length:=by omega
   refine zxB 100 72 ?_
   repeat refine nx ?_
   exact rt1 []
end Go.Proofs.YtaagjnlkinojcaaGreat

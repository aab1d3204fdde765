/-
  Chapter 14: the document's next step. The conditions: rows of at most a hundred thousand bytes.
-/
import Derived.Test.YtaagjnlkinojcaaGreatQ3
import Derived.Test.YtaagjnlkinojcaaGreatB4
namespace Go.Proofs.YtaagjnlkinojcaaGreat
set_option linter.unusedSimpArgs false
set_option linter.unusedVariables false
open Go.Sx
set_option maxRecDepth 10000
def NmB (n:List (List AtT)):Prop:=n.length≤16000000∧∀ r ∈ n,r.length≤16000000∧∀ a ∈ r,AtB a
theorem z1S {α:Type} {l:List α} {i:Nat} {d:α} (h:i<l.length):l.getD i d ∈ l:=by
 rw[List.getD_eq_getElem?_getD,List.getElem?_eq_getElem h]
 exact List.getElem_mem h
theorem z9Y {α:Type} {l:List α} {p:α→Bool} {d:α} (h:∀ j,j<l.length→p (l.getD j d)=true):l.all p=true:=by
 rw[List.all_eq_true]
 intro x hx
 obtain⟨j,hj,rfl⟩:=List.mem_iff_getElem.1 hx
 have:=h j hj
 rwa[List.getD_eq_getElem?_getD,List.getElem?_eq_getElem hj] at this
theorem z80 {α:Type} {l:List α} {p:α→Bool} {d:α} {j:Nat} (hj:j<l.length) (h:¬ p (l.getD j d)=true):l.all p=false:=by
 rw[Bool.eq_false_iff]
 intro h2
 exact h (List.all_eq_true.1 h2 _ (z1S hj))
set_option maxHeartbeats 8000000 in
theorem z7h (n:List (List AtT)) (hb1:NmB n):Ct Tryz.prog 132 [nmV n] [] (lv (.bool (z15 n))) [] []:=by
 have hml:(n.map fun r=> [z2g r]).length=n.length:=List.length_map ..
 have hl:=hb1.1
 unfold z15
 by_cases h64:64<n.length
 ·rw[decide_eq_false (by omega),Bool.false_and]
  refine z00 Tryz.func132 rfl rfl rfl rfl rfl (fun E hn hb=>?_)
  repeat refine nx ?_
  exact rt1 []
 rw[decide_eq_true (by omega),Bool.true_and]
 refine z00 Tryz.func132 rfl rfl rfl rfl rfl (fun E hn hb=>?_)
 repeat refine nx ?_
 rw[hml]
 refine z09 (St.le_of (l:= [(10,nmV n),(11,lv (.int .i64 (n.length:Int))),(12,lv (.int .i64 ((0:Nat):Int)))]) (h:= []) (by refine⟨?_,?_⟩<;>(repeat' (first | exact trivial | exact rfl | refine⟨?_,?_⟩))<;>first | exact rfl |(simp; done) | skip)) ?_
 refine z0h (ι:= {i:Nat//i≤n.length∧∀ j,j<i→z0D (n.getD j [])=true}) (fun i=>St.of [(10,nmV n),(11,lv (.int .i64 (n.length:Int))),(12,lv (.int .i64 (i.1:Int)))] []) (fun i=>n.length -i.1) (fun i=>?_) ⟨0,Nat.zero_le _,fun j hj=>by omega⟩
 obtain⟨i,hi,hu⟩:=i
 dsimp only
 by_cases hi2:i<n.length
 ·have hq:n.getD (i:Int).toNat []=n.getD i []:=rfl
  have hbr:=hb1.2 _ (z1S (d:= []) hi2)
  have hw:=z8P _ hbr.2 hbr.1
  by_cases ha:z0D (n.getD i [])=true
  ·rw[ha,if_pos rfl] at hw
   generalize hA:n.getD i []=r at*
   repeat (first | refine nx ?_ | rw[hq])
   refine z07 ⟨i+1,hi2,fun j hj=>by
    by_cases e:j=i
    ·subst e; rw[hA]; exact ha
    ·exact hu j (by omega)⟩ (by dsimp only; omega) (St.le_of ⟨⟨rfl,rfl,rfl⟩,trivial⟩)
  ·rw[z80 hi2 ha]
   rw[if_neg ha,Bool.eq_false_iff.2 ha] at hw
   generalize hA:n.getD i []=r at*
   repeat (first | refine nx ?_ | rw[hq])
   exact rt1 []
 ·obtain rfl:i=n.length:=by omega
  rw[z9Y hu]
  repeat refine nx ?_
  exact rt1 []
set_option maxHeartbeats 8000000 in
theorem zcR (r:List AtT) (hb1:∀ a ∈ r,AtB a) (hl:r.length≤16000000):Ct Tryz.prog 139 [z39 r] [] (lv (.bool (z0D r))) [] []:=by
 have hml:(r.map atL).length=r.length:=List.length_map ..
 by_cases h1:r.length=0
 ·obtain rfl:=List.eq_nil_of_length_eq_zero h1
  refine z00 Tryz.func139 rfl rfl rfl rfl rfl (fun E hn hb=>?_)
  repeat refine nx ?_
  exact rt1 []
 by_cases h16:16<r.length
 ·have hS:z0D r=false:=by
   rw[Bool.eq_false_iff]
   intro h
   have:=((z5r r).1 h).1
   omega
  rw[hS]
  refine z00 Tryz.func139 rfl rfl rfl rfl rfl (fun E hn hb=>?_)
  repeat refine nx ?_
  exact rt1 []
 refine z00 Tryz.func139 rfl rfl rfl rfl rfl (fun E hn hb=>?_)
 repeat refine nx ?_
 have hS0:=z5r r
 generalize z0D r=S at*
 refine W_up 3 (x:=B8 []) (.inr ⟨rfl,.inl ⟨_,rfl⟩⟩) ?_
 refine z09 (St.le_of (l:= [(0,z39 r),(3,B8 []),(4,lv (.int .i64 ((0:Nat):Int)))]) (h:= []) (by refine⟨?_,?_⟩<;>(repeat' (first | exact trivial | exact rfl | refine⟨?_,?_⟩))<;>first | exact rfl |(simp; done) | skip)) ?_
 refine z0h (ι:= {i:Nat//i≤r.length∧zfd r i}) (fun i=>St.of [(0,z39 r),(3,B8 (if i.1=0 then [] else atW (r.getD (i.1 -1) atD))),(4,lv (.int .i64 (i.1:Int)))] []) (fun i=>r.length -i.1) (fun i=>?_) ⟨0,Nat.zero_le _,fun j hj=>by omega⟩
 obtain⟨i,hi,hu⟩:=i
 dsimp only
 by_cases hi2:i<r.length
 ·have hq:r.getD (i:Int).toNat default=r.getD i atD:=rfl
  have hb2:=z8q hb1 hi2
  have hw:=zbz _ hb2
  have hwn:=zhe _ hb2
  by_cases ha:z1w (r.getD i atD)=true
  ·have hw:=hw ha
   clear hwn
   by_cases h0:i=0
   ·subst h0
    generalize hA:r.getD 0 atD=a at*
    rw[if_pos rfl]
    generalize hX:atW a=X at*
    obtain⟨o,v⟩:=a
    repeat (first | refine nx ?_ | rw[hq])
    refine wgF (lv (.int .i64 0)) hn ?_
    repeat refine nx ?_
    refine z07 ⟨1,hi2,fun j hj=>by obtain rfl:j=0:=by omega
                                   rw[hA]; exact⟨ha,fun h=>absurd h (by omega)⟩⟩ (by dsimp only; omega) (St.le_of ⟨⟨rfl,?_,rfl⟩,trivial⟩)
    show B8 X=B8 (if 1=0 then [] else atW (r.getD 0 atD))
    rw[if_neg (by decide),hA,hX]
   ·have hcm:=z6K (atW (r.getD (i -1) atD)) (atW (r.getD i atD)) (by have:=z47 (hu (i -1) (by omega)).1; have:=(z8q hb1 (show i -1<r.length by omega)).l; omega) (by have:=z47 ha; have:=hb2.l; omega)
    rw[if_neg h0]
    generalize hA:r.getD i atD=a at*
    generalize hX:atW a=X at*
    generalize hY:atW (r.getD (i -1) atD)=Y at*
    obtain⟨o,v⟩:=a
    repeat (first | refine nx ?_ | rw[hq])
    refine z06 rfl (by simp) (fun hc=>?_) (fun hc=>?_)
    ·have hS:S=false:=by
      rw[Bool.eq_false_iff]
      intro h
      have:=((hS0.1 h).2 i hi2).2 (by omega)
      rw[hY,hA,hX] at this
      simp at hc
      omega
     subst hS
     repeat refine nx ?_
     exact rt1 []
    ·repeat refine nx ?_
     refine z07 ⟨i+1,hi2,fun j hj=>by
      by_cases e:j=i
      ·subst e
       rw[hA,hY,hX]
       simp at hc
       exact⟨ha,fun _=>by omega⟩
      ·exact hu j (by omega)⟩ (by dsimp only; omega) (St.le_of ⟨⟨rfl,?_,rfl⟩,trivial⟩)
     show B8 X=B8 (if i+1=0 then [] else atW (r.getD (i+1 -1) atD))
     rw[if_neg (by omega),Nat.add_sub_cancel,hA,hX]
  ·have hwn:=hwn (by simpa using ha)
   have hS:S=false:=by
    rw[Bool.eq_false_iff]
    intro h
    exact ha ((hS0.1 h).2 i hi2).1
   subst hS
   clear hw ha hb2 hS0
   generalize r.getD i atD=a at*
   obtain⟨o,v⟩:=a
   repeat (first | refine nx ?_ | rw[hq])
   refine wgF (lv (.int .i64 0)) hn ?_
   repeat refine nx ?_
   exact rt1 []
 ·obtain rfl:i=r.length:=by omega
  have hS:S=true:=hS0.2 ⟨⟨by omega,by omega⟩,hu⟩
  subst hS
  repeat refine nx ?_
  exact rt1 []
set_option maxHeartbeats 8000000 in
theorem zdG (n:List (List AtT)) (hb1:NmB n):Ct Tryz.prog 75 [nmV n] [] (lv (.bool (z15 n))) [] []:=by
 have hml:(n.map fun r=> [z2g r]).length=n.length:=List.length_map ..
 have hl:=hb1.1
 unfold z15
 refine z00 Tryz.func75 rfl rfl rfl rfl rfl (fun E hn hb=>?_)
 repeat refine nx ?_
 refine z09 (St.le_of (l:= [(0,nmV n),(3,lv (.int .i64 ((0:Nat):Int)))]) (h:= []) (by refine⟨?_,?_⟩<;>(repeat' (first | exact trivial | exact rfl | refine⟨?_,?_⟩))<;>first | exact rfl |(simp; done) | skip)) ?_
 refine z0h (ι:= {i:Nat//i≤n.length∧∀ j,j<i→z0D (n.getD j [])=true}) (fun i=>St.of [(0,nmV n),(3,lv (.int .i64 (i.1:Int)))] []) (fun i=>n.length -i.1) (fun i=>?_) ⟨0,Nat.zero_le _,fun j hj=>by omega⟩
 obtain⟨i,hi,hu⟩:=i
 dsimp only
 by_cases hi2:i<n.length
 ·have hq:n.getD (i:Int).toNat []=n.getD i []:=rfl
  have hbr:=hb1.2 _ (z1S (d:= []) hi2)
  have hw:=zcR _ hbr.2 hbr.1
  by_cases ha:z0D (n.getD i [])=true
  ·rw[ha] at hw
   generalize hA:n.getD i []=r at*
   repeat (first | refine nx ?_ | rw[hq])
   refine z07 ⟨i+1,hi2,fun j hj=>by
    by_cases e:j=i
    ·subst e; rw[hA]; exact ha
    ·exact hu j (by omega)⟩ (by dsimp only; omega) (St.le_of ⟨⟨rfl,rfl⟩,trivial⟩)
  ·rw[z80 hi2 ha,Bool.and_false]
   rw[Bool.eq_false_iff.2 ha] at hw
   generalize hA:n.getD i []=r at*
   repeat (first | refine nx ?_ | rw[hq])
   exact rt1 []
 ·obtain rfl:i=n.length:=by omega
  rw[z9Y hu,Bool.and_true]
  repeat refine nx ?_
  refine rt2 [] (congrArg (fun x=>lv (.bool x)) ?_) trivial
  rw[hml,Bool.eq_iff_iff]
  simp
  omega
theorem z9j:∀ a b:List Int,-1≤z0z a b∧z0z a b≤1
 | [],[]=>by simp[z0z]
 | [],_::_=>by simp[z0z]
 | _::_,[]=>by simp[z0z]
 | x::a,y::b=>by
   have:=z9j a b
   rw[z0z]
   split
   ·omega
   ·split
    ·omega
    ·exact this
theorem zgN {x:List Int} {a:AtT} {p q:Nat} (hw:WfB x) (hl:x.length≤12000000) (hp:p≤x.length) (h:z2k x p=(a,q,0)):z1w a=true∧AtB a∧x.drop p=atW a++x.drop q∧q≤x.length∧p<q:=by
 obtain⟨h1,h2⟩:=zbJ hw h
 have hq:=(zej x p hp).2
 rw[h] at hq
 have hpos:0<(atW a).length:=z1U _ _
 have hlen:=congrArg List.length h2
 rw[List.length_append,List.length_drop,List.length_drop] at hlen
 have hsub:∀ z ∈ a.2,z ∈ atW a:=fun z hz=>by
  unfold atW z04
  simp[hz]
 have hle:a.2.length≤(atW a).length:=by
  unfold atW z04
  simp only[List.length_append]
  omega
 have hr:z0V a.1=true:=by
  unfold z1w at h1
  rw[Bool.and_eq_true] at h1
  exact h1.1
 refine⟨h1,⟨?_,by omega,fun z hz=>hw z ?_⟩,h2,hq,by dsimp only at hq; omega⟩
 ·obtain⟨_,_,t,ho,_,_,_,_,ht,_⟩:=z3W hr
  rw[ho]
  simp
  omega
 ·have:z ∈ x.drop p:=by rw[h2]; exact List.mem_append_left _ (hsub z hz)
  exact List.mem_of_mem_drop this
theorem ziO {x:List Int} {p:Nat} (h:¬ (z2k x p).2.2=0):(z2k x p).1=([],[]):=by
 unfold z2k at h ⊢
 dsimp only at h ⊢
 split at h
 ·rename_i h1
  rw[if_pos h1]
  dsimp only at h ⊢
  unfold z6q at h ⊢
  dsimp only at h ⊢
  split at h
  ·rename_i h2
   rw[if_pos h2]
   split at h
   ·rename_i h3
    rw[if_pos h3]
    split at h
    ·rename_i h4
     rw[if_pos h4]
    ·exact absurd rfl h
   ·rename_i h3
    rw[if_neg h3]
  ·rename_i h2
   rw[if_neg h2]
 ·rename_i h1
  rw[if_neg h1]
abbrev z2N (acc:List AtT):List Int:=if acc= [] then [] else atW (acc.getLastD ([],[]))
def z3G (l:List Int) (p:Nat):List AtT×Nat×Int:=
 let r:=z0m l p (ofT 17)
 if r.2.2=0 then((z43 r.1 (r.1.length+1) 0 []).1,r.2.1,(z43 r.1 (r.1.length+1) 0 []).2) else([],p,r.2.2)
theorem ze6 (l:List Int) (p:Nat) (hp:p≤l.length):p≤(z3G l p).2.1∧(z3G l p).2.1≤l.length:=by
 have h:=z3Q l p (ofT 17) hp
 unfold z3G
 dsimp only
 split
 ·exact h
 ·exact⟨Nat.le_refl _,hp⟩
theorem z6b (l:List Int) (p:Nat):z1m l p=z0M [] p (z3G l p):=by
 unfold z1m z3G z0M
 dsimp only
 split
 ·split
  ·rename_i h1 h2; rw[h2]
  ·rfl
 ·rfl
set_option maxHeartbeats 16000000 in
theorem zgO (l:List Int) (p:Nat) (hp:p≤l.length) (hl:l.length≤12000000) (hw:WfB l):Ct Tryz.prog 193 [rdN] [z05 l p] (.tup [z39 (z3G l p).1,lv (.int .i64 (z3G l p).2.2)]) [z05 l (z3G l p).2.1] []:=by
 have hho:=z1G 17
 have hop:=z2m l p (ofT 17) hp (by omega) hw
 have hoe:=z31 l p (ofT 17) hp (by omega) hw
 have hmem:=z0H l p (ofT 17)
 unfold z3G
 generalize z0m l p (ofT 17)=X at*
 obtain⟨x,q,e⟩:=X
 dsimp only at*
 by_cases he:e=0
 ·subst he
  have hop:=hop rfl
  rw[if_pos rfl]
  have hwx:WfB x:=fun y hy=>hw y (hmem.2 y hy)
  obtain⟨R,hR⟩:∃ R,z43 x (x.length+1) 0 []=R:=⟨_,rfl⟩
  rw[hR]
  refine z00 Tryz.func193 rfl rfl rfl rfl rfl (fun E hn hb=>?_)
  repeat refine nxw ?_
  refine z6l [79] [(3,0),(3,79)] ?_
  repeat (first | refine nx ?_ | refine z6V [0] hn hop ?_)
  refine z0N 6 900 2 (.recs 2 []) rfl rfl (.inr (.inr ⟨_,rfl⟩)) ?_
  refine W_up 7 (x:=B8 []) (.inr ⟨rfl,.inl ⟨_,rfl⟩⟩) ?_
  refine z09 (St.le_of (l:= [(4,.c (.ptr 79 0)),(6,.c (.own 900 2 0 (([]:List AtT).map atL).length)),(7,B8 [])]) (h:= [(0,z05 l q),(79,z05 x 0),(900,.row (.recs 2 (([]:List AtT).map atL)))]) (by refine⟨?_,?_⟩<;>(repeat' (first | exact trivial | exact rfl | refine⟨?_,?_⟩))<;>first | exact rfl |(simp; done) | skip)) ?_
  refine z0h (ι:= {s:Nat×Nat×List AtT//s.2.1≤x.length∧x.length -s.2.1<s.1∧s.2.2.length≤16∧(∀ a ∈ s.2.2,z1w a=true∧AtB a)∧z43 x s.1 s.2.1 s.2.2=R}) (fun s=>St.of [(4,.c (.ptr 79 0)),(6,.c (.own 900 2 0 (s.1.2.2.map atL).length)),(7,B8 (z2N s.1.2.2))] [(0,z05 l q),(79,z05 x s.1.2.1),(900,.row (.recs 2 (s.1.2.2.map atL)))]) (fun s=>s.1.1) (fun s=>?_) ⟨(x.length+1,0,[]),Nat.zero_le _,by dsimp only; omega,by simp,by simp,hR⟩
  obtain⟨⟨f,pp,acc⟩,hpp,hf,h16,hok,hx⟩:=s
  dsimp only at hpp hf h16 hok hx ⊢
  obtain⟨f,rfl⟩:∃ m,f=m+1:=⟨f -1,by omega⟩
  have hml:(acc.map atL).length=acc.length:=List.length_map ..
  have hlf:=z1b x pp hpp (by omega)
  rw[z43] at hx
  by_cases hlt:pp<x.length
  ·rw[if_pos hlt] at hx
   by_cases h6:acc.length=16
   ·rw[if_pos h6] at hx
    subst hx
    repeat refine nx ?_
    exact rtU []
   ·rw[if_neg h6] at hx
    have hat:=zl3 x pp hpp (by omega) hwx
    have hB:= @zgN x (z2k x pp).1 pp (z2k x pp).2.1 hwx (by omega) hpp
    have hne:= @ziO x pp
    generalize z2k x pp=A at*
    obtain⟨a,q1,e1⟩:=A
    dsimp only at hat hx hB hne
    by_cases he1:e1=0
    ·subst he1
     rw[if_pos rfl] at hx
     obtain⟨b1,b2,b3,b4,b5⟩:=hB rfl
     have hwh:=zd9 a b2 b1
     by_cases h0:acc= []
     ·subst h0
      rw[if_neg (by simp),if_neg (by simp),List.nil_append] at hx
      obtain⟨o,v⟩:=a
      generalize hXX:atW (o,v)=XX at*
      repeat refine nx ?_
      refine z07 ⟨(f,q1,[(o,v)]),b4,by dsimp only; omega,by simp,by simp[b1,b2],hx⟩ (by dsimp only; omega) (St.le_of ⟨⟨rfl,rfl,?_⟩,⟨rfl,rfl,rfl⟩⟩)
      show B8 XX=B8 (atW (o,v))
      rw[hXX]
     ·have hla:z2N acc=atW (acc.getLastD ([],[])):=if_neg h0
      have hlm:acc.getLastD ([],[]) ∈ acc:=by
       rw[List.getLastD_eq_getLast?,List.getLast?_eq_some_getLast h0]
       exact List.getLast_mem h0
      have hcm:=z6c (z2N acc) (atW a) (by rw[hla]; have:=z47 (hok _ hlm).1; have:=(hok _ hlm).2.l; omega) (by have:=z47 b1; have:=b2.l; omega)
      have hrg:=z9j (z2N acc) (atW a)
      have hpos:0<acc.length:=List.length_pos_iff.2 h0
      rw[←hla] at hx
      have hnl:z2N (acc++ [a])=atW a:=by
       unfold z2N
       rw[if_neg (by simp)]
       simp
      obtain⟨o,v⟩:=a
      generalize hXX:atW (o,v)=XX at*
      generalize z2N acc=Y at*
      generalize z0z Y XX=C at*
      by_cases hc0:C=0
      ·subst hc0
       rw[if_pos ⟨h0,rfl⟩] at hx
       subst hx
       repeat refine nx ?_
       exact rtU []
      ·by_cases hc1:0<C
       ·obtain rfl:C=1:=by omega
        rw[if_neg (by simp),if_pos ⟨h0,by decide⟩] at hx
        subst hx
        repeat refine nx ?_
        exact rtU []
       ·obtain rfl:C= -1:=by omega
        rw[if_neg (by simp),if_neg (by simp)] at hx
        repeat refine nx ?_
        refine z07 ⟨(f,q1,acc++ [(o,v)]),b4,by dsimp only; omega,by simp; omega,fun a ha=>?_,hx⟩ (by dsimp only; omega) (St.le_of ⟨⟨rfl,?_,?_⟩,⟨rfl,rfl,?_⟩⟩)
        ·rcases List.mem_append.1 ha with h | h
         ·exact hok a h
         ·rw[List.mem_singleton.1 h]; exact⟨b1,b2⟩
        ·dsimp only; rw[List.map_append]; rfl
        ·show B8 XX=B8 (z2N (acc++ [(o,v)]))
         rw[hnl]
        ·dsimp only; rw[List.map_append]; rfl
    ·rw[if_neg he1] at hx
     obtain rfl:=hne he1
     subst hx
     repeat refine nx ?_
     exact rtU []
  ·rw[if_neg hlt] at hx
   obtain rfl:pp=x.length:=by omega
   by_cases h0:acc= []
   ·subst h0
    rw[if_pos rfl] at hx
    subst hx
    repeat refine nx ?_
    exact rtU []
   ·rw[if_neg h0] at hx
    subst hx
    have hpos:0<acc.length:=List.length_pos_iff.2 h0
    repeat refine nx ?_
    rw[hml]
    refine z2d 2 ?_
    exact rt1 []
 ·have hoe:=hoe he
  rw[if_neg he]
  refine z00 Tryz.func193 rfl rfl rfl rfl rfl (fun E hn hb=>?_)
  repeat refine nxw ?_
  refine z6l [] [(3,0)] ?_
  repeat (first | refine nx ?_ | refine z6V [0] hn hoe ?_)
  exact rtU []
theorem zfv (l:List Int) (p:Nat) (hp:p≤l.length) (hl:l.length≤12000000) (hw:WfB l):Ct Tryz.prog 159 [.c (.ptr 0 0)] [z05 l p] (.tup [z39 (z1m l p).1,lv (.int .i64 (z1m l p).2.2)]) [z05 l (z1m l p).2.1] []:=by
 have h:=zgO l p hp hl hw
 have hle:=ze6 l p hp
 have h1:=z1W l p
 rw[z6b]
 generalize z3G l p=R at*
 obtain⟨x,q,e⟩:=R
 dsimp only at*
 by_cases he:e=0
 ·subst he
  rw[z2s _ _ _ rfl]
  refine z00 Tryz.func159 rfl rfl rfl rfl rfl (fun E hn hb=>?_)
  repeat refine nx ?_
  exact rt1 []
 ·rw[z1v _ _ _ he]
  have hbk:=z24 l q p hle.1 (by omega)
  refine z00 Tryz.func159 rfl rfl rfl rfl rfl (fun E hn hb=>?_)
  repeat refine nx ?_
  exact rtU []
set_option maxHeartbeats 32000000 in
theorem z81 (l:List Int) (p:Nat) (hp:p≤l.length) (hl:l.length≤12000000) (hw:WfB l):Ct Tryz.prog 123 [B8 l,lv (.int .i64 (p:Int))] [] (.tup [z39 (z1m l p).1,lv (.int .i64 ((z1m l p).2.1:Int)),lv (.int .i64 (z1m l p).2.2)]) [] []:=by
 have hof:=z2h 17
 have hof6:=z2h 16
 have hop:=z3p l p (ofT 17) hp (by omega) hw
 have hmem:=z0H l p (ofT 17)
 obtain⟨Z,hZ⟩:∃ Z,z1m l p=Z:=⟨_,rfl⟩
 rw[hZ]
 unfold z1m at hZ
 generalize z0m l p (ofT 17)=X at*
 obtain⟨x,q,e⟩:=X
 dsimp only at*
 by_cases he:e=0
 ·subst he
  rw[if_pos rfl] at hZ
  have hwx:WfB x:=fun y hy=>hw y (hmem.2 y hy)
  obtain⟨R,hR⟩:∃ R,z43 x (x.length+1) 0 []=R:=⟨_,rfl⟩
  rw[hR] at hZ
  refine z00 Tryz.func123 rfl rfl rfl rfl rfl (fun E hn hb=>?_)
  repeat refine nx ?_
  refine z0N 10 900 2 (.recs 2 []) rfl rfl (.inr (.inr ⟨_,rfl⟩)) ?_
  refine W_up 11 (x:=B8 []) (.inr ⟨rfl,.inl ⟨_,rfl⟩⟩) ?_
  refine z09 (St.le_of (l:= [(1,lv (.int .i64 (p:Int))),(7,B8 x),(8,lv (.int .i64 (q:Int))),(10,.c (.own 900 2 0 (([]:List AtT).map atL).length)),(11,B8 []),(12,lv (.int .i64 ((0:Nat):Int)))]) (h:= [(900,.row (.recs 2 (([]:List AtT).map atL)))]) (by refine⟨?_,?_⟩<;>(repeat' (first | exact trivial | exact rfl | refine⟨?_,?_⟩))<;>first | exact rfl |(simp; done) | skip)) ?_
  refine z0h (ι:= {s:Nat×Nat×List AtT//s.2.1≤x.length∧x.length -s.2.1<s.1∧s.2.2.length≤16∧(∀ a ∈ s.2.2,z1w a=true∧AtB a)∧z43 x s.1 s.2.1 s.2.2=R}) (fun s=>St.of [(1,lv (.int .i64 (p:Int))),(7,B8 x),(8,lv (.int .i64 (q:Int))),(10,.c (.own 900 2 0 (s.1.2.2.map atL).length)),(11,B8 (z2N s.1.2.2)),(12,lv (.int .i64 (s.1.2.1:Int)))] [(900,.row (.recs 2 (s.1.2.2.map atL)))]) (fun s=>s.1.1) (fun s=>?_) ⟨(x.length+1,0,[]),Nat.zero_le _,by dsimp only; omega,by simp,by simp,hR⟩
  obtain⟨⟨f,pp,acc⟩,hpp,hf,h16,hok,hx⟩:=s
  dsimp only at hpp hf h16 hok hx ⊢
  obtain⟨f,rfl⟩:∃ m,f=m+1:=⟨f -1,by omega⟩
  have hml:(acc.map atL).length=acc.length:=List.length_map ..
  rw[z43] at hx
  by_cases hlt:pp<x.length
  ·rw[if_pos hlt] at hx
   by_cases h6:acc.length=16
   ·rw[if_pos h6] at hx
    subst hx
    rw[if_neg (by simp)] at hZ
    subst hZ
    repeat refine nx ?_
    exact rtU []
   ·rw[if_neg h6] at hx
    have hxo:=z3p x pp (ofT 16) hpp (by omega) hwx
    have hxm:=z0H x pp (ofT 16)
    have hB:= @zgN x (z2k x pp).1 pp (z2k x pp).2.1 hwx (by omega) hpp
    have hA:z2k x pp=z2k x pp:=rfl
    conv at hA=>rhs; unfold z2k
    generalize z0m x pp (ofT 16)=O at*
    obtain⟨y,nx1,f0⟩:=O
    dsimp only at hxo hxm hA
    by_cases hf0:f0=0
    ·subst hf0
     rw[if_pos rfl] at hA
     have hwy:WfB y:=fun z hz=>hwx z (hxm.2 z hz)
     have h1:=zgU y 0 (Nat.zero_le _) (by omega) hwy
     have h1l:=zay y 0 (Nat.zero_le _)
     unfold z6q at hA
     generalize z3q y 0=OO at*
     obtain⟨o,qq,g⟩:=OO
     dsimp only at h1 h1l hA
     by_cases hg:g=0
     ·subst hg
      rw[if_pos rfl] at hA
      have h2:=z3o y qq h1l.2 (by omega) hwy
      have h2l:=z17 y qq h1l.2
      have hpos:=z1V y qq hwy
      unfold z4q at hA
      generalize z0a y qq=RR at*
      obtain⟨⟨⟨t1,t2,t3⟩,n⟩,r,h⟩:=RR
      dsimp only at h2 h2l hpos hA
      by_cases hh:h=0
      ·subst hh
       rw[if_pos rfl] at hA
       by_cases hN:(y.length:Int) -r<n
       ·rw[if_pos hN,if_neg (by simp)] at hA
        rw[hA,if_neg (by simp)] at hx
        subst hx
        rw[if_neg (by simp)] at hZ
        subst hZ
        repeat refine nx ?_
        exact rtU []
       ·rw[if_neg hN] at hA
        dsimp only at hA
        rw[if_pos rfl] at hA
        by_cases hM:n<(y.length:Int) -r
        ·rw[if_pos (by omega)] at hA
         rw[hA,if_neg (by simp)] at hx
         subst hx
         rw[if_neg (by simp)] at hZ
         subst hZ
         repeat refine nx ?_
         exact rtU []
        ·rw[if_neg (by omega),List.take_of_length_le (by simp; omega)] at hA
         rw[hA] at hB hx
         dsimp only at hB hx
         obtain⟨b1,b2,b3,b4,b5⟩:=hB rfl
         rw[if_pos rfl] at hx
         have hone:(x.take (nx1:Int).toNat).drop (pp:Int).toNat=atW (o,y.drop qq):=by
          rw[Int.toNat_natCast,Int.toNat_natCast]
          have:=(z7p b4 hpp b3)
          rw[this.2,List.drop_left' (by simp; omega)]
         by_cases h0:acc= []
         ·subst h0
          rw[if_neg (by simp),if_neg (by simp),List.nil_append] at hx
          generalize hXX:atW (o,y.drop qq)=XX at*
          repeat refine nx ?_
          refine z07 ⟨(f,nx1,[(o,y.drop qq)]),b4,by dsimp only; omega,by simp,by simp[b1,b2],hx⟩ (by dsimp only; omega) (St.le_of ⟨⟨rfl,rfl,rfl,rfl,?_,rfl⟩,?_⟩)
          ·show B8 ((x.take (nx1:Int).toNat).drop (pp:Int).toNat)=B8 (atW (o,y.drop qq))
           rw[hone,hXX]
          ·rfl
         ·have hla:z2N acc=atW (acc.getLastD ([],[])):=if_neg h0
          have hlm:acc.getLastD ([],[]) ∈ acc:=by
           rw[List.getLastD_eq_getLast?,List.getLast?_eq_some_getLast h0]
           exact List.getLast_mem h0
          have hcm:Ct Tryz.prog 92 [B8 (z2N acc),B8 ((x.take (nx1:Int).toNat).drop (pp:Int).toNat)] [] (lv (.int .i64 (z0z (z2N acc) (atW (o,y.drop qq))))) [] []:=by
           rw[hone]
           exact z6K (z2N acc) (atW (o,y.drop qq)) (by rw[hla]; have:=z47 (hok _ hlm).1; have:=(hok _ hlm).2.l; omega) (by have:=z47 b1; have:=b2.l; omega)
          have hrg:=z9j (z2N acc) (atW (o,y.drop qq))
          have hpos:0<acc.length:=List.length_pos_iff.2 h0
          rw[←hla] at hx
          have hnl:z2N (acc++ [(o,y.drop qq)])=atW (o,y.drop qq):=by
           unfold z2N
           rw[if_neg (by simp)]
           simp
          generalize hXX:atW (o,y.drop qq)=XX at*
          generalize z2N acc=Y at*
          generalize z0z Y XX=C at*
          by_cases hc0:C=0
          ·subst hc0
           rw[if_pos ⟨h0,rfl⟩] at hx
           subst hx
           rw[if_neg (by simp)] at hZ
           subst hZ
           repeat refine nx ?_
           exact rtU []
          ·by_cases hc1:0<C
           ·rw[if_neg (fun h=>hc0 h.2),if_pos ⟨h0,hc1⟩] at hx
            subst hx
            rw[if_neg (by simp)] at hZ
            subst hZ
            repeat refine nx ?_
            exact rtU []
           ·rw[if_neg (fun h=>hc0 h.2),if_neg (fun h=>hc1 h.2)] at hx
            repeat refine nx ?_
            refine z07 ⟨(f,nx1,acc++ [(o,y.drop qq)]),b4,by dsimp only; omega,by simp; omega,fun a ha=>?_,hx⟩ (by dsimp only; omega) (St.le_of ⟨⟨rfl,rfl,rfl,?_,?_,rfl⟩,?_⟩)
            ·rcases List.mem_append.1 ha with h | h
             ·exact hok a h
             ·rw[List.mem_singleton.1 h]; exact⟨b1,b2⟩
            ·dsimp only; rw[List.map_append]; rfl
            ·show B8 ((x.take (nx1:Int).toNat).drop (pp:Int).toNat)=B8 (z2N (acc++ [(o,y.drop qq)]))
             rw[hnl,hone]
            ·dsimp only; rw[List.map_append]; rfl
      ·rw[if_neg hh,if_neg hh] at hA
       rw[hA,if_neg hh] at hx
       subst hx
       rw[if_neg hh] at hZ
       subst hZ
       repeat refine nx ?_
       exact rtU []
     ·rw[if_neg hg] at hA
      rw[hA,if_neg hg] at hx
      subst hx
      rw[if_neg hg] at hZ
      subst hZ
      repeat refine nx ?_
      exact rtU []
    ·rw[if_neg hf0] at hA
     rw[hA,if_neg hf0] at hx
     subst hx
     rw[if_neg hf0] at hZ
     subst hZ
     repeat refine nx ?_
     exact rtU []
  ·rw[if_neg hlt] at hx
   obtain rfl:pp=x.length:=by omega
   by_cases h0:acc= []
   ·subst h0
    rw[if_pos rfl] at hx
    subst hx
    rw[if_neg (by simp)] at hZ
    subst hZ
    repeat refine nx ?_
    exact rtU []
   ·rw[if_neg h0] at hx
    subst hx
    rw[if_pos rfl] at hZ
    subst hZ
    have hpos:0<acc.length:=List.length_pos_iff.2 h0
    repeat refine nx ?_
    rw[hml]
    refine z2d 4 ?_
    exact rt1 []
 ·rw[if_neg he] at hZ
  subst hZ
  refine z00 Tryz.func123 rfl rfl rfl rfl rfl (fun E hn hb=>?_)
  repeat refine nx ?_
  exact rtU []
end Go.Proofs.YtaagjnlkinojcaaGreat

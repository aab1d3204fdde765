/-
  Build: the wholes of wholes one after another. No program in sight. The conditions: right tags, contents up to the greatest.
-/
import Derived.Test.YtaagjnlkinojcaaGreatC8
import Derived.Test.YtaagjnlkinojcaaGreatD15
import Derived.Test.YtaagjnlkinojcaaGreatSxX
import Derived.Test.YtaagjnlkinojcaaGreatB4
namespace Go.Proofs.YtaagjnlkinojcaaGreat
set_option linter.unusedSimpArgs false
set_option linter.unusedVariables false
open Go.Sx
set_option maxRecDepth 10000
def z1L:List Int→List Int→Nat
 | x::a,y::b=>if x=y then z1L a b+1 else 0
 | _,_=>0
theorem zec:∀ a b:List Int,z1L a b≤a.length∧z1L a b≤b.length
 | [],b=>by cases b<;>simp[z1L]
 | x::a,[]=>by simp[z1L]
 | x::a,y::b=>by
   have:=zec a b
   simp only[z1L]
   split<;>simp<;>omega
theorem zbl:∀(a b:List Int) (i:Nat),(∀ k,k<i→a.getD k 0=b.getD k 0)→i<a.length→i<b.length→a.getD i 0≠b.getD i 0→z1L a b=i
 | [],b,i,_,h,_,_=>by simp at h
 | x::a,[],i,_,_,h,_=>by simp at h
 | x::a,y::b,0,_,_,_,h=>by simp at h; simp[z1L,h]
 | x::a,y::b,i+1,h,h1,h2,h3=>by
   have h0:x=y:=by simpa using h 0 (by omega)
   have:=zbl a b i (fun k hk=>by simpa using h (k+1) (by omega)) (by simpa using h1) (by simpa using h2) (by simpa using h3)
   simp only[z1L,h0,if_true,this]
theorem zcU:∀(a b:List Int),(∀ k,k<min a.length b.length→a.getD k 0=b.getD k 0)→z1L a b=min a.length b.length
 | [],b,_=>by cases b<;>simp[z1L]
 | x::a,[],_=>by simp[z1L]
 | x::a,y::b,h=>by
   have h0:x=y:=by simpa using h 0 (by simp)
   have:=zcU a b (fun k hk=>by simpa using h (k+1) (by simp; omega))
   simp only[z1L,h0,if_true,this]
   simp
theorem zcV:∀(a b:List Int),z0z a b=(if z1L a b<a.length∧z1L a b<b.length then(if a.getD (z1L a b) 0<b.getD (z1L a b) 0 then -1 else 1) else if z1L a b<b.length then -1 else if z1L a b<a.length then 1 else 0)
 | [],[]=>rfl
 | [],y::b=>by simp[z0z,z1L]
 | x::a,[]=>by simp[z0z,z1L]
 | x::a,y::b=>by
   have ih:=zcV a b
   by_cases h:x=y
   ·subst h
    simp only[z0z,Int.lt_irrefl,if_false,z1L,if_true,ih,List.length_cons,Nat.add_lt_add_iff_right,List.getD_cons_succ]
   ·simp only[z0z,z1L,h,if_false,List.length_cons,Nat.zero_lt_succ,and_self,if_true,List.getD_cons_zero]
    by_cases h1:x<y
    ·simp[h1]
    ·have:y<x:=by omega
     simp[h1,this]
theorem zgY (a b:List Int) (ha:a.length≤16000000) (hb':b.length≤16000000):Ct Tryz.prog 155 [B8 a,B8 b] [] (lv (.int .i64 (z1L a b))) [] []:=by
 refine z00 Tryz.func155 rfl rfl rfl rfl rfl (fun E hn hb=>?_)
 repeat (refine nst ?_)
 have hN:min (a.length:Int) b.length=((min a.length b.length:Nat):Int):=by omega
 rw[hN]
 generalize hn0:min a.length b.length=n at*
 refine z09 (St.le_of (l:= [(0,B8 a),(1,B8 b),(5,lv (.int .i64 (n:Int))),(12,lv (.int .i64 (n:Int))),(13,lv (.int .i64 0))]) (h:= []) (by refine⟨?_,?_⟩<;>(repeat' (first | exact trivial | exact rfl | refine⟨?_,?_⟩))<;>first | exact rfl |(simp; done) | skip)) ?_
 refine z0h (ι:= {i:Nat//i≤n∧∀ k,k<i→a.getD k 0=b.getD k 0}) (fun i=>St.of [(0,B8 a),(1,B8 b),(5,lv (.int .i64 (n:Int))),(12,lv (.int .i64 (n:Int))),(13,lv (.int .i64 (i.1:Int)))] []) (fun i=>n -i.1) (fun i=>?_) ⟨0,by omega,fun k hk=>by omega⟩
 obtain⟨i,hi,he⟩:=i
 dsimp only
 repeat (refine nst ?_)
 refine z06 rfl (by simp) (fun hc=>?_) (fun hc=>?_)
 ·have hin:i<n:=by simp at hc; omega
  repeat (refine nst ?_)
  refine z2V 9 (by kernel_rfl) (by kernel_rfl) (by kernel_rfl) (by rw[hn]; rfl) rfl rfl ?_
  repeat (first | refine dp1 ?_ | refine dg1 ?_ | refine z1i ?_)
  repeat (refine nst ?_)
  refine z06 rfl (by simp) (fun hq=>?_) (fun hq=>?_)
  ·have hne:a.getD i 0≠b.getD i 0:=by simpa using hq
   rw[zbl a b i he (by omega) (by omega) hne]
   repeat (refine nst ?_)
   exact rt1 []
  ·have hne:a.getD i 0=b.getD i 0:=by simpa using hq
   repeat (refine nst ?_)
   refine z07 ⟨i+1,by omega,fun k hk=>?_⟩ (by dsimp only; omega) (St.le_of ⟨⟨rfl,rfl,rfl,rfl,rfl⟩,trivial⟩)
   rcases Nat.lt_or_ge k i with h | h
   ·exact he k h
   ·have:k=i:=by omega
    subst this; exact hne
 ·have:i=n:=by simp at hc; omega
  subst this
  rw[zcU a b (by rw[hn0]; exact he),hn0]
  repeat (refine nst ?_)
  exact rt1 []
theorem z6c (a b:List Int) (ha:a.length≤16000000) (hb':b.length≤16000000):Ct Tryz.prog 208 [B8 a,B8 b] [] (lv (.int .i64 (z0z a b))) [] []:=by
 have hpc:=zcV a b
 obtain⟨hp1,hp2⟩:=zec a b
 generalize z0z a b=r at*
 refine z00 Tryz.func208 rfl rfl rfl rfl rfl (fun E hn hb=>?_)
 repeat (refine nst ?_)
 refine z1r (zgY a b ha hb') rfl rfl rfl (by rw[hn]; rfl) rfl rfl (by exact vcs) rfl rfl rfl ?_
 repeat (refine nst ?_)
 generalize z1L a b=n at*
 refine z06 rfl (by simp) (fun hq=>?_) (fun hq=>?_)
 ·have h1:n<a.length∧n<b.length:=by simpa[Bool.cond_eq_ite] using hq
  rw[if_pos h1] at hpc
  obtain⟨h1a,h1b⟩:=h1
  repeat (refine nst ?_)
  refine z2V 9 (by kernel_rfl) (by kernel_rfl) (by kernel_rfl) (by rw[hn]; rfl) rfl rfl ?_
  repeat (first | refine dp1 ?_ | refine dg1 ?_ | refine z1i ?_)
  repeat (refine nst ?_)
  refine z06 rfl (by simp) (fun hr=>?_) (fun hr=>?_)
  ·have h2:a.getD n 0<b.getD n 0:=by simpa using hr
   rw[if_pos h2] at hpc
   subst hpc
   repeat (refine nst ?_)
   exact rt1 []
  ·have h2:¬ a.getD n 0<b.getD n 0:=by simpa using hr
   rw[if_neg h2] at hpc
   subst hpc
   repeat (refine nst ?_)
   exact rt1 []
 ·have h1:¬ (n<a.length∧n<b.length):=by
   simp[Bool.cond_eq_ite] at hq
   omega
  rw[if_neg h1] at hpc
  repeat (refine nst ?_)
  refine z06 rfl (by simp) (fun hr=>?_) (fun hr=>?_)
  ·have h2:n<b.length:=by simpa using hr
   rw[if_pos h2] at hpc
   subst hpc
   repeat (refine nst ?_)
   exact rt1 []
  ·have h2:¬ n<b.length:=by simp at hr; omega
   rw[if_neg h2] at hpc
   repeat (refine nst ?_)
   refine z06 rfl (by simp) (fun hu=>?_) (fun hu=>?_)
   ·have h3:n<a.length:=by simpa using hu
    rw[if_pos h3] at hpc
    subst hpc
    repeat (refine nst ?_)
    exact rt1 []
   ·have h3:¬ n<a.length:=by simp at hu; omega
    rw[if_neg h3] at hpc
    subst hpc
    repeat (refine nst ?_)
    exact rt1 []
def z3N:Nat→List (List Int)→List (List Int)
 | 0,rs=>rs
 | j+1,rs=>if z0z (rs.getD (j+1) []) (rs.getD j [])<0 then z3N j ((rs.set (j+1) (rs.getD j [])).set j (rs.getD (j+1) [])) else rs
def z2i:Nat→Nat→List (List Int)→List (List Int)
 | _,0,rs=>rs
 | i,n+1,rs=>z2i (i+1) n (z3N i rs)
theorem z9k:∀(j:Nat) (rs:List (List Int)),(z3N j rs).length=rs.length
 | 0,_=>rfl
 | j+1,rs=>by
   unfold z3N
   split
   ·rw[z9k]; simp
   ·rfl
def z40 (rs:List (List Int)):Prop:=∀ r ∈ rs,r.length≤16000000
theorem z3l {rs:List (List Int)} (h:z40 rs) (i:Nat):(rs.getD i []).length≤16000000:=by
 rcases Nat.lt_or_ge i rs.length with hi | hi
 ·rw[List.getD_eq_getElem?_getD,List.getElem?_eq_getElem hi]
  exact h _ (List.getElem_mem hi)
 ·rw[List.getD_eq_getElem?_getD,List.getElem?_eq_none hi]
  exact Nat.zero_le _
theorem z7l {rs:List (List Int)} (h:z40 rs) (i:Nat) {x:List Int} (hx:x.length≤16000000):z40 (rs.set i x):=by
 intro r hr
 rcases List.mem_or_eq_of_mem_set hr with h1 | h1
 ·exact h r h1
 ·rw[h1]; exact hx
theorem zbm:∀(j:Nat) (rs:List (List Int)),z40 rs→z40 (z3N j rs)
 | 0,_,h=>h
 | j+1,rs,h=>by
   unfold z3N
   split
   ·exact zbm j _ (z7l (z7l h _ (z3l h _)) _ (z3l h _))
   ·exact h
abbrev z4T (rs:List (List Int)):Blk:= .row (.recs 1 (z26 rs))
set_option maxHeartbeats 4000000 in
theorem ziX (rs:List (List Int)) (hl:rs.length≤1000) (hr:z40 rs):
  Ct Tryz.prog 239 [.c (.own 0 1 0 rs.length),lv (.int .i64 0),lv (.int .i64 (rs.length:Int)),.c (.fn (.func 208) [] [])] [z4T rs] (.tup []) [z4T (z2i 1 (rs.length -1) rs)] []:=by
 refine z00 Tryz.func239 rfl rfl rfl rfl rfl (fun E hn hb=>?_)
 repeat refine nx ?_
 refine z09 (St.le_of (l:= [(0,.c (.own 0 1 0 rs.length)),(1,lv (.int .i64 0)),(2,lv (.int .i64 (rs.length:Int))),(3,.c (.fn (.func 208) [] [])),(8,lv (.int .i64 ((1:Nat):Int)))]) (h:= [(0,z4T rs)]) (by refine⟨?_,?_⟩<;>(repeat' (first | exact trivial | exact rfl | refine⟨?_,?_⟩))<;>first | exact rfl |(simp; done) | skip)) ?_
 refine z0h (ι:= {x:Nat×List (List Int)//1≤x.1∧(x.1≤rs.length∨rs.length=0)∧x.2.length=rs.length∧z40 x.2∧z2i x.1 (rs.length -x.1) x.2=z2i 1 (rs.length -1) rs}) (fun i=>St.of [(0,.c (.own 0 1 0 rs.length)),(1,lv (.int .i64 0)),(2,lv (.int .i64 (rs.length:Int))),(3,.c (.fn (.func 208) [] [])),(8,lv (.int .i64 (i.1.1:Int)))] [(0,z4T i.1.2)]) (fun i=>rs.length -i.1.1) (fun i=>?_) ⟨(1,rs),by dsimp only; omega,by dsimp only; omega,rfl,hr,rfl⟩
 obtain⟨⟨i,ts⟩,h0,h1,h2,h3,h4⟩:=i
 change 1≤i at h0
 change i≤rs.length∨rs.length=0 at h1
 change ts.length=rs.length at h2
 change z40 ts at h3
 change z2i i (rs.length -i) ts=_ at h4
 dsimp only
 by_cases hi:i<rs.length
 ·repeat refine nx ?_
  refine z09 (St.le_of (l:= [(0,.c (.own 0 1 0 rs.length)),(1,lv (.int .i64 0)),(2,lv (.int .i64 (rs.length:Int))),(3,.c (.fn (.func 208) [] [])),(8,lv (.int .i64 (i:Int))),(9,lv (.int .i64 (i:Int)))]) (h:= [(0,z4T ts)]) (by refine⟨?_,?_⟩<;>(repeat' (first | exact trivial | exact rfl | refine⟨?_,?_⟩))<;>first | exact rfl |(simp; done) | skip)) ?_
  refine z0h (ι:= {x:Nat×List (List Int)//x.1≤i∧x.2.length=rs.length∧z40 x.2∧z3N x.1 x.2=z3N i ts}) (fun k=>St.of [(0,.c (.own 0 1 0 rs.length)),(1,lv (.int .i64 0)),(2,lv (.int .i64 (rs.length:Int))),(3,.c (.fn (.func 208) [] [])),(8,lv (.int .i64 (i:Int))),(9,lv (.int .i64 (k.1.1:Int)))] [(0,z4T k.1.2)]) (fun k=>k.1.1) (fun k=>?_) ⟨(i,ts),Nat.le_refl _,h2,h3,rfl⟩
  obtain⟨⟨j,us⟩,g0,g1,g2,g3⟩:=k
  change j≤i at g0
  change us.length=rs.length at g1
  change z40 us at g2
  change z3N j us=_ at g3
  dsimp only
  have hstep:z2i i (rs.length -i) ts=z2i (i+1) (rs.length -(i+1)) (z3N i ts):=by
   rw[show rs.length -i=(rs.length -(i+1))+1 by omega,z2i]
  have hbl:=z9k i ts
  have hbr:=zbm i ts h3
  cases j with
  | zero=>
    rw[z3N] at g3
    repeat refine nx ?_
    refine zfi (hF:=z6c _ _ (z3l g2 _) (z3l g2 _)) ?_
    repeat refine nx ?_
    subst g3
    rw[h4] at hstep
    refine z07 ⟨(i+1,z3N i ts),by dsimp only; omega,by dsimp only; omega,by dsimp only; omega,hbr,hstep.symm⟩ (by dsimp only; omega) (St.le_of ⟨⟨rfl,rfl,rfl,rfl,rfl⟩,rfl⟩)
  | succ j=>
    repeat refine nx ?_
    refine zfi (hF:=z6c _ _ (z3l g2 _) (z3l g2 _)) ?_
    repeat refine nx ?_
    have e1:0+((j+1:Nat):Int).toNat=j+1:=by omega
    have e2:0+(((j+1:Nat):Int) -1).toNat=j:=by omega
    have e3:((j+1:Nat):Int) -1=(j:Int):=by omega
    refine z06 rfl (by simp) (fun hc=>?_) (fun hc=>?_)
    ·rw[e1,e2] at hc
     have hlt:z0z (us.getD (j+1) []) (us.getD j [])<0:=by
      generalize z0z (us.getD (j+1) []) (us.getD j [])=C at hc ⊢
      simp at hc
      omega
     rw[z3N,if_pos hlt] at g3
     repeat refine nx ?_
     refine z07 ⟨(j,(us.set (j+1) (us.getD j [])).set j (us.getD (j+1) [])),by dsimp only; omega,by simp[g1],z7l (z7l g2 _ (z3l g2 _)) _ (z3l g2 _),g3⟩ (by dsimp only; omega) (St.le_of ⟨⟨rfl,rfl,rfl,rfl,rfl,?_⟩,?_⟩)
     ·show lv (.int .i64 (((j+1:Nat):Int) -1))=_
      rw[e3]
     ·show z4T ((us.set (0+((j+1:Nat):Int).toNat) (us.getD (0+(((j+1:Nat):Int) -1).toNat) [])).set (0+(((j+1:Nat):Int) -1).toNat) (us.getD (0+((j+1:Nat):Int).toNat) []))=_
      rw[e1,e2]
    ·rw[e1,e2] at hc
     have hlt:¬ z0z (us.getD (j+1) []) (us.getD j [])<0:=by
      generalize z0z (us.getD (j+1) []) (us.getD j [])=C at hc ⊢
      simp at hc
      omega
     rw[z3N,if_neg hlt] at g3
     subst g3
     rw[h4] at hstep
     repeat refine nx ?_
     refine z07 ⟨(i+1,z3N i ts),by dsimp only; omega,by dsimp only; omega,by dsimp only; omega,hbr,hstep.symm⟩ (by dsimp only; omega) (St.le_of ⟨⟨rfl,rfl,rfl,rfl,rfl⟩,rfl⟩)
 ·have:rs.length -i=0:=by omega
  rw[this,z2i] at h4
  rw[←h4]
  repeat refine nx ?_
  exact rt1 []
set_option maxHeartbeats 4000000 in
theorem z5X (l:List Int) (p:Nat) (hp:p≤l.length) (hl:l.length≤12000000) (hw:WfB l):
  Ct Tryz.prog 189 [B8 l,lv (.int .i64 (p:Int))] [] (.tup [.c (.lf (.recs 1 (z26 (z12 l p).1))),lv (.int .i64 (z12 l p).2)]) [] []:=by
 refine z00 Tryz.func189 rfl rfl rfl rfl rfl (fun E hn hb=>?_)
 repeat refine nx ?_
 refine z0N 6 900 1 (.recs 1 []) rfl rfl (.inr (.inr ⟨_,rfl⟩)) ?_
 refine z09 (St.le_of (l:= [(0,B8 l),(1,lv (.int .i64 (p:Int))),(6,.c (.own 900 1 0 (z26 []).length))]) (h:= [(900,.row (.recs 1 (z26 [])))]) (by refine⟨?_,?_⟩<;>(repeat' (first | exact trivial | exact rfl | refine⟨?_,?_⟩))<;>first | exact rfl |(simp; done) | skip)) ?_
 refine z0h (ι:= {x:Nat×Nat×List (List Int)//p≤x.2.1∧x.2.1≤l.length∧l.length -x.2.1<x.1∧x.2.2.length≤x.2.1∧z11 l x.1 x.2.1 x.2.2=z12 l p}) (fun i=>St.of [(0,B8 l),(1,lv (.int .i64 (i.1.2.1:Int))),(6,.c (.own 900 1 0 (z26 i.1.2.2).length))] [(900,.row (.recs 1 (z26 i.1.2.2)))]) (fun i=>l.length -i.1.2.1) (fun i=>?_) ⟨(l.length+1,p,[]),Nat.le_refl _,hp,by dsimp only; omega,Nat.zero_le _,rfl⟩
 obtain⟨⟨n,q,acc⟩,h0,h1,h2,h3,h4⟩:=i
 change p≤q at h0
 change q≤l.length at h1
 change l.length -q<n at h2
 change acc.length≤q at h3
 change z11 l n q acc=z12 l p at h4
 dsimp only
 obtain⟨n,rfl⟩:∃ m,n=m+1:=⟨n -1,by omega⟩
 by_cases hq:q<l.length
 ·have ho:=z3o l q h1 (by omega) hw
  have hf:=zeb l q hq hw
  have hst:=z85 l n q acc hq
  have her:¬ (z13 l q).2.2.2.1=0→z11 l (n+1) q acc=([],(z13 l q).2.2.2.1):=fun h=>by rw[z11,if_neg (by omega),if_pos h]
  have hpos:=z1V l q hw
  have hle:=z17 l q h1
  unfold z13 at hf hst her
  generalize z0a l q=O at*
  obtain⟨⟨⟨t1,t2,t3⟩,a⟩,r,e⟩:=O
  dsimp only at*
  by_cases he:e=0
  ·subst he
   rw[if_neg (by simp)] at hf hst her
   by_cases hx:(l.length:Int) -r<a
   ·rw[if_pos hx] at hf hst her
    rw[h4] at her
    rw[her (by simp)]
    repeat refine nx ?_
    exact rtU []
   ·rw[if_neg hx] at hf hst her
    dsimp only at hf hst
    have hf:=hf rfl
    have hsl:(l.drop q).take (r -q+a.toNat)=(l.take ((r:Int)+a).toNat).drop (q:Int).toNat:=by
     rw[Int.toNat_natCast,List.drop_take]
     congr 1
     omega
    have hrec:z26 (acc++ [(l.drop q).take (r -q+a.toNat)])=z26 acc++ [[.ints .u8 ((l.take ((r:Int)+a).toNat).drop (q:Int).toNat)]]:=by rw[hsl]; simp[z26]
    rw[hst rfl] at h4
    repeat refine nx ?_
    refine z07 ⟨(n,r+a.toNat,acc++ [(l.drop q).take (r -q+a.toNat)]),by dsimp only; omega,by dsimp only; omega,by dsimp only; omega,by dsimp only; simp; omega,h4⟩ (by dsimp only; omega) (St.le_of ⟨⟨rfl,?_,?_⟩,?_⟩)
    ·exact congrArg (fun x=>lv (.int .i64 x)) (show(r:Int)+a=((r+a.toNat:Nat):Int) by omega)
    ·dsimp only; rw[hrec]; show _=_; rfl
    ·dsimp only; rw[hrec]; show _=_; rfl
  ·rw[if_pos he] at hf hst her
   have her:=her he
   rw[h4] at her
   rw[her]
   repeat refine nx ?_
   exact rtU []
 ·have hw0:z12 l p=(acc,0):=by rw[←h4,z11,if_pos (by omega)]
  rw[hw0]
  obtain rfl:q=l.length:=by omega
  repeat refine nx ?_
  refine z2d 4 ?_
  exact rtU []
theorem zgZ (rs:List (List Int)) (hl:rs.length≤19) (hr:z40 rs):
  Ct Tryz.prog 230 [.c (.own 0 1 0 rs.length),lv (.int .i64 (rs.length:Int)),.c (.fn (.func 208) [] [])] [z4T rs] (.tup []) [z4T (z2i 1 (rs.length -1) rs)] []:=by
 have h:=ziX rs (by omega) hr
 refine z00 Tryz.func230 rfl rfl rfl rfl rfl (fun E hn hb=>?_)
 repeat refine nx ?_
 refine zgs ?_
 repeat refine nx ?_
 refine zgs ?_
 repeat refine nx ?_
 exact rt1 []
theorem ziY (rs:List (List Int)) (hl:rs.length≤19) (hr:z40 rs):
  Ct Tryz.prog 215 [.c (.own 0 1 0 rs.length),.c (.fn (.func 208) [] [])] [z4T rs] (.tup []) [z4T (z2i 1 (rs.length -1) rs)] []:=by
 have h:=zgZ rs hl hr
 refine z00 Tryz.func215 rfl rfl rfl rfl rfl (fun E hn hb=>?_)
 repeat refine nx ?_
 exact rt1 []
theorem zh0 (rs:List (List Int)) (hl:rs.length≤1000):Ct Tryz.prog 214 [z2J rs] [] (.c (.own 0 1 0 rs.length)) [] [z4T rs]:=by
 refine z00 Tryz.func214 rfl rfl rfl rfl rfl (fun E hn hb=>?_)
 repeat refine nx ?_
 refine z9V (neg:=false) rfl rfl (by rw[hn]; rfl) Tryz.underlying249 rfl (by simp) (by simp[szD]) (fun b hbl=>?_)
 simp[z0f] at hbl
 cases b with
 | true=>
   obtain rfl:=hbl rfl
   repeat refine nx ?_
   refine z7V 2 64 1 (.recs 1 []) rfl rfl (.inr (.inr ⟨_,rfl⟩)) ?_
   exact rt1 [64]
 | false=>
   repeat refine nx ?_
   refine rt2 [69] ?_ ?_
   ·simp; rfl
   ·simp; rfl
def z4H (rs:List (List Int)):List (List Int):=z2i 1 (rs.length -1) rs
theorem za3:∀(n i:Nat) (rs:List (List Int)),(z2i i n rs).length=rs.length
 | 0,_,_=>rfl
 | n+1,i,rs=>by rw[z2i,za3 n,z9k]
theorem ziZ (rs:List (List Int)) (hl:rs.length≤19) (hr:z40 rs) (hf:(z4H rs).flatten.length≤16000000):
  Ct Tryz.prog 185 [z2J rs] [] (.tup [B8 (z04 (ofT 17) (z4H rs).flatten),lv (.int .i64 0)]) [] []:=by
 have h1:=zh0 rs (by omega)
 have h2:=ziY rs hl hr
 have hil:=za3 (rs.length -1) 1 rs
 have h3:=z1G 17
 have h4:=z6E (ofT 17) (z4H rs) (by decide) (by unfold z4H; omega) hf
 change Ct Tryz.prog _ _ _ _ [z4T (z4H rs)] _ at h2
 change (z4H rs).length=_ at hil
 generalize z4H rs=ss at*
 generalize z04 (ofT 17) ss.flatten=W at*
 refine z00 Tryz.func185 rfl rfl rfl rfl rfl (fun E hn hb=>?_)
 repeat refine nx ?_
 rw[←hil]
 refine zcA 10 ?_
 repeat refine nx ?_
 exact rtU []
def atO (out:List (List Int)) (x:List Int):Nat→Nat
 | 0=>0
 | n+1=>if 0<z0z (out.getD n []) x then atO out x n else n+1
def z7m (out:List (List Int)) (x:List Int):List (List Int):=out.take (atO out x out.length)++x::out.drop (atO out x out.length)
def z5g:List (List Int)→List (List Int)→List (List Int)
 | [],out=>out
 | x::l,out=>z5g l (z7m out x)
theorem zbn (rs:List (List Int)) (i:Nat) (h:i<rs.length):(rs.take (i+1)).flatten=(rs.take i).flatten++rs.getD i []∧(rs.take (i+1)).flatten.length≤rs.flatten.length:=by
 refine⟨by rw[List.take_succ_eq_append_getElem h,List.flatten_append,List.flatten_cons,List.flatten_nil,List.append_nil,List.getD_eq_getElem?_getD,List.getElem?_eq_getElem h]; rfl,?_⟩
 have:=congrArg List.length (congrArg List.flatten (List.take_append_drop (i+1) rs))
 simp only[List.flatten_append,List.length_append] at this
 omega
theorem zkM (out:List (List Int)) (x:List Int):(z7m out x).length=out.length+1:=by
 unfold z7m
 simp
 omega
theorem z86:∀ a b:List Int,z0z a b<0↔0<z0z b a
 | [],[]=>by simp[z0z]
 | [],_::_=>by simp[z0z]
 | _::_,[]=>by simp[z0z]
 | x::a,y::b=>by
   have ih:=z86 a b
   simp only[z0z]
   (repeat' split)<;>first | omega | exact ih
theorem zj0 (P D:List (List Int)) (o x:List Int):(((P++ [o])++x::D).set (P.length+1) o).set P.length x=P++x::(o::D):=by
 rw[List.append_assoc,List.set_append_right _ _ (by omega),show P.length+1 -P.length=1 by omega,List.set_append_right _ _ (by omega),Nat.sub_self]
 rfl
theorem zed (out rest:List (List Int)) (x:List Int):∀ k,k≤out.length→z3N k (out.take k++x::(out.drop k++rest))=out.take (atO out x k)++x::(out.drop (atO out x k)++rest)
 | 0,_=>rfl
 | k+1,hk=>by
   have ht:out.take (k+1)=out.take k++ [out.getD k []]:=by
    rw[List.take_succ_eq_append_getElem (by omega),List.getD_eq_getElem?_getD,List.getElem?_eq_getElem (by omega)]; rfl
   have hd:out.drop k=out.getD k []::out.drop (k+1):=by
    rw[List.drop_eq_getElem_cons (by omega),List.getD_eq_getElem?_getD,List.getElem?_eq_getElem (by omega)]; rfl
   have hl:(out.take k).length=k:=by simp; omega
   rw[ht,z3N,atO]
   have g1:(out.take k++ [out.getD k []]++x::(out.drop (k+1)++rest)).getD (k+1) []=x:=by
    rw[List.getD_eq_getElem?_getD,List.getElem?_append_right (by simp; omega)]
    simp[hl]
   have g2:(out.take k++ [out.getD k []]++x::(out.drop (k+1)++rest)).getD k []=out.getD k []:=by
    rw[List.getD_eq_getElem?_getD,List.append_assoc,List.getElem?_append_right (by omega),hl,Nat.sub_self]
    rfl
   rw[g1,g2]
   by_cases h:z0z x (out.getD k [])<0
   ·rw[if_pos h,if_pos ((z86 _ _).1 h)]
    have sw:=zj0 (out.take k) (out.drop (k+1)++rest) (out.getD k []) x
    rw[hl] at sw
    rw[sw,←List.cons_append,←hd]
    exact zed out rest x k (by omega)
   ·rw[if_neg h,if_neg (fun h2=>h ((z86 _ _).2 h2)),ht]
theorem z8T:∀(l out:List (List Int)),z2i out.length l.length (out++l)=z5g l out
 | [],out=>by simp[z2i,z5g]
 | x::l,out=>by
   have h:=zed out l x out.length (Nat.le_refl _)
   rw[List.take_length,List.drop_length,List.nil_append] at h
   rw[List.length_cons,z2i,h,z5g]
   have e:out.take (atO out x out.length)++x::(out.drop (atO out x out.length)++l)=z7m out x++l:=by simp[z7m]
   rw[e,←zkM out x]
   exact z8T l (z7m out x)
theorem zcW (rs:List (List Int)):z4H rs=z5g rs []:=by
 cases rs with
 | nil=>rfl
 | cons x l=>exact z8T l [x]
theorem z4m (a b c:List Int) (t:z0g) (h:z0q t=true) (hb:b.length≤16777216):z0a (a++(z04 t b++c)) a.length=((t,(b.length:Int)),a.length+(tgL t).length+(z0I b.length).length,0):=by
 have e0:z04 t b++c=tgL t++(z0I b.length++(b++c)):=by simp[z04]
 have e1:=zev a (z0I b.length++(b++c)) t h
 have e2:=zew (a++tgL t) (b++c) b.length hb (.inr trivial)
 rw[e0]
 unfold z0a z33
 rw[e1]
 dsimp only
 rw[if_pos rfl,←List.append_assoc,←List.length_append,e2]
 rfl
theorem zpB (a b c:List Int) (t:z0g) (h:z0q t=true) (hb:b.length≤16777216):z13 (a++(z04 t b++c)) a.length=(z04 t b,t,b,0,a.length+(z04 t b).length):=by
 have hr:=z4m a b c t h hb
 have hw:(z04 t b).length=(tgL t).length+(z0I b.length).length+b.length:=by simp[z04]; omega
 have e3:a++(z04 t b++c)=(a++tgL t++z0I b.length)++(b++c):=by simp[z04]
 unfold z13
 rw[hr]
 dsimp only
 rw[if_neg (by simp),if_neg (by simp; omega),Int.toNat_natCast]
 refine Prod.ext ?_ (Prod.ext rfl (Prod.ext ?_ (Prod.ext rfl ?_)))
 ·dsimp only
  rw[List.drop_left,show a.length+(tgL t).length+(z0I b.length).length -a.length+b.length=(z04 t b).length by omega,List.take_left]
 ·dsimp only
  rw[e3,show a.length+(tgL t).length+(z0I b.length).length=(a++tgL t++z0I b.length).length by simp[Nat.add_assoc],List.drop_left,List.take_left]
 ·dsimp only; omega
end Go.Proofs.YtaagjnlkinojcaaGreat

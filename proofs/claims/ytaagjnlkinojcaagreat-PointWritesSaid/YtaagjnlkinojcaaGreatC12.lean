/-
  Chapter 02: digits to a base that is a power of two. The conditions: numbers that a machine can hold.
-/
import Derived.Test.YtaagjnlkinojcaaGreatC7
import Derived.Test.YtaagjnlkinojcaaGreatSxN
import Derived.Test.YtaagjnlkinojcaaGreatW10
namespace Go.Proofs.YtaagjnlkinojcaaGreat
set_option linter.unusedSimpArgs false
set_option linter.unusedVariables false
open Go.Sx
set_option maxRecDepth 10000
theorem z4n (n:Int):Ct Tryz.prog 48 [lv (.int .i64 n)] [] (z2c (ofT n)) [] []:=by
 refine z00 Tryz.func48 rfl rfl rfl rfl rfl (fun E hn hb=>?_)
 repeat (refine nst ?_)
 refine z0E rfl rfl rfl (by rw[hn]; rfl) rfl z8g ?_
 repeat (refine nst ?_)
 refine z0m rfl rfl rfl rfl rfl (by exact vcs) rfl rfl rfl (by rw[z1T]; rfl) (by rw[z2F]; rfl) rfl rfl ?_
 repeat (refine nst ?_)
 refine rt2 [] ?_ ?_
 ·show Av.agg [.lf (.v (.int .i64 0)),.lf (.v (.int .i64 n)),.lf (.v (.bool (cond (n==16) true (n==17))))]=_
  have e:(cond (n==16) true (n==17))=decide (n=16∨n=17):=by
   by_cases h1:n=16<;>by_cases h2:n=17<;>simp[h1,h2]
  rw[e]
  rfl
 ·trivial
theorem zkG (b:List Int) (p:Nat):z0P b p=if p<b.length then
  if b.getD p 0%32<31 then((b.getD p 0/64,b.getD p 0%32,decide (b.getD p 0/32%2=1)),p+1,0)
  else if(z0Z b 3 (p+1) 0).2.2=0 then((b.getD p 0/64,(z0Z b 3 (p+1) 0).1,decide (b.getD p 0/32%2=1)),(z0Z b 3 (p+1) 0).2.1,0) else(z2n,p,(z0Z b 3 (p+1) 0).2.2)
  else(z2n,p,3):=by
 unfold z0P z35
 split
 ·have:(b.getD p 0%32=31)↔¬ (b.getD p 0%32<31):=by omega
  by_cases h:b.getD p 0%32<31
  ·rw[if_pos h,if_neg (by omega)]
   rfl
  ·rw[if_neg h,if_pos (by omega)]
   unfold z0U
   split
   ·rename_i h2
    dsimp only at h2 ⊢
    rw[h2]
   ·rename_i h2
    dsimp only at h2 ⊢
 ·rfl
structure RS where
 i:Nat
 n:Int
def RS.ok (l:List Int) (p:Nat) (s:RS):Prop:=s.i≤3∧p+1+s.i≤l.length∧z0Z l (3 -s.i) (p+1+s.i) s.n=z0Z l 3 (p+1) 0∧0≤s.n∧(s.i=0∧s.n<1∨s.i=1∧s.n<128∨s.i=2∧s.n<16384∨s.i=3∧s.n<2097152)
abbrev zxx (r:z0h×Nat×Int):Av:= .tup [z2c r.1,lv (.int .i64 (r.2.1:Int)),lv (.int .i64 r.2.2)]
set_option maxHeartbeats 4000000 in
theorem zfp (l:List Int) (p:Nat) (hp:p≤l.length) (hl:l.length≤16000000) (hw:WfB l):Ct Tryz.prog 166 [B8 l,lv (.int .i64 (p:Int))] [] (zxx (z0P l p)) [] []:=by
 have hTT:=zkG l p
 generalize z0P l p=T at*
 refine z00 Tryz.func166 rfl rfl rfl rfl rfl (fun E hn hb=>?_)
 repeat (refine nst ?_)
 refine z0E rfl rfl rfl (by rw[hn]; rfl) rfl z8g ?_
 repeat (refine nst ?_)
 refine z06 rfl (by simp) (fun h1=>?_) (fun h1=>?_)
 ·have h1':¬ p<l.length:=by simp at h1; omega
  rw[if_neg h1'] at hTT
  subst hTT
  repeat (refine nst ?_)
  refine z0m rfl rfl rfl rfl rfl (by exact vcs) rfl rfl rfl (by rw[z1T]; rfl) (by rw[z2F]; rfl) rfl rfl ?_
  repeat (refine nst ?_)
  exact rt1 []
 have h1':p<l.length:=by simp at h1; omega
 rw[if_pos h1'] at hTT
 have hd:=z5E hw p
 repeat (refine nst ?_)
 rw[Int.toNat_natCast]
 generalize hdd:l.getD p 0=d at*
 repeat (refine nst ?_)
 refine z0E rfl rfl rfl (by rw[hn]; rfl) rfl z8g ?_
 repeat (refine nst ?_)
 refine z0m rfl rfl rfl rfl rfl (by exact vcs) rfl rfl rfl (by rw[z1T]; rfl) (by rw[z2F]; rfl) rfl rfl ?_
 repeat (refine nst ?_)
 rw[show(d/32%2==1)=decide (d/32%2=1) from by by_cases h:d/32%2=1<;>simp[h]]
 generalize decide (d/32%2=1)=mk at*
 refine z06 rfl (by simp) (fun h2=>?_) (fun h2=>?_)
 ·have h2':d%32<31:=by simpa using h2
  rw[if_pos h2'] at hTT
  subst hTT
  repeat (refine nst ?_)
  refine z0m rfl rfl rfl rfl rfl (by exact vcs) rfl rfl rfl (by rw[z1T]; rfl) (by rw[z2F]; rfl) rfl rfl ?_
  repeat (refine nst ?_)
  exact rt1 []
 have h2':¬ d%32<31:=by simpa using h2
 rw[if_neg h2'] at hTT
 have h0:RS.ok l p ⟨0,0⟩:=⟨by simp,by dsimp only; omega,rfl,by simp,by simp⟩
 repeat (refine nst ?_)
 refine z09 (St.le_of (l:= [(0,B8 l),(1,lv (.int .i64 (p:Int))),(4,.c (.ptr 68 0)),(8,.c (.ptr 72 0)),(9,lv (.int .i64 0)),(10,lv (.int .i64 1))]) (h:= [(68,.cells [.lf (.v (.int .i64 0)),.lf (.v (.int .i64 0)),.lf (.v (.bool false))]),(72,.cells [.lf (.v (.int .i64 (d/64))),.lf (.v (.int .i64 (d%32))),.lf (.v (.bool mk))])]) (by refine⟨?_,?_⟩<;>(repeat' (first | exact trivial | exact rfl | refine⟨?_,?_⟩))<;>first | exact rfl |(simp; done) | skip)) ?_
 refine z0k (ι:= {s:RS//s.ok l p}) (fun s=>St.of [(0,B8 l),(1,lv (.int .i64 (p:Int))),(4,.c (.ptr 68 0)),(8,.c (.ptr 72 0)),(9,lv (.int .i64 s.1.n)),(10,lv (.int .i64 ((s.1.i:Int)+1)))] [(68,.cells [.lf (.v (.int .i64 0)),.lf (.v (.int .i64 0)),.lf (.v (.bool false))]),(72,.cells [.lf (.v (.int .i64 (d/64))),.lf (.v (.int .i64 (d%32))),.lf (.v (.bool mk))])]) (fun s=>3 -s.1.i) (fun s=>?_) ⟨⟨0,0⟩,h0⟩
 obtain⟨⟨i,n⟩,hi,hq,hR,hn0,hn1⟩:=s
 dsimp only at hi hq hR hn0 hn1 ⊢
 generalize hRR:z0Z l 3 (p+1) 0=R at hR hTT ⊢
 clear hdd hd
 repeat (refine nst ?_)
 refine z06 rfl (by simp) (fun h3=>?_) (fun h3=>?_)
 ·have h3':¬ p+1+i<l.length:=by simp at h3; omega
  rw[zdc l _ _ _ h3'] at hR
  subst hR
  subst hTT
  repeat (refine nst ?_)
  refine z0m rfl rfl rfl rfl rfl (by exact vcs) rfl rfl rfl (by rw[z1T]; rfl) (by rw[z2F]; rfl) rfl rfl ?_
  repeat (refine nst ?_)
  exact rt1 []
 have h3':p+1+i<l.length:=by simp at h3; omega
 have hd:=z5E hw (p+1+i)
 have eg:l.getD ((p:Int)+((i:Int)+1)).toNat 0=l.getD (p+1+i) 0:=by
  rw[show((p:Int)+((i:Int)+1)).toNat=p+1+i by omega]
 repeat (refine nst ?_)
 rw[eg]
 generalize hdd:l.getD (p+1+i) 0=x at*
 repeat (refine nst ?_)
 have ec:(cond (cond ((i:Int)+1==1) (x==128) false) true ((i:Int)+1==4))=decide ((i=0∧x=128)∨i=3):=by
  by_cases h4:i=0
  ·subst h4
   by_cases h5:x=128<;>simp[h5]
  ·have h6:¬ ((i:Int)+1=1):=by omega
   by_cases h7:i=3
   ·subst h7; simp
   ·have h8:¬ ((i:Int)+1=4):=by omega
    have h9:((i:Int)+1==1)=false:=by simpa using h6
    have h10:((i:Int)+1==4)=false:=by simpa using h8
    rw[h9,h10]
    simp[h4,h7]
 rw[ec]
 refine z06 rfl (by simp) (fun h4=>?_) (fun h4=>?_)
 ·have h4':(i=0∧x=128)∨i=3:=by simpa using h4
  have eR:R=(0,p+1+i+1,4):=by
   by_cases h5:i=3
   ·subst h5
    simp only[Nat.sub_self,z0Z,h3',if_true] at hR
    exact hR.symm
   ·have h6:i=0∧x=128:=h4'.resolve_right h5
    rw[z6n l i _ n (by omega) h3',hdd,if_pos h6] at hR
    exact hR.symm
  rw[eR,if_neg (by simp)] at hTT
  subst hTT
  repeat (refine nst ?_)
  refine z0m rfl rfl rfl rfl rfl (by exact vcs) rfl rfl rfl (by rw[z1T]; rfl) (by rw[z2F]; rfl) rfl rfl ?_
  repeat (refine nst ?_)
  exact rt1 []
 have h4':¬ ((i=0∧x=128)∨i=3):=by simpa using h4
 have hi3:i<3:=by omega
 rw[z6n l i _ n hi3 h3',hdd,if_neg (fun h=>h4' (.inl h))] at hR
 clear h4 ec
 repeat (refine nst ?_)
 generalize hmm:128*n+x%128=m at*
 refine z06 rfl (by simp) (fun h5=>?_) (fun h5=>?_)
 ·have h5':x<128:=by simpa using h5
  rw[if_pos h5'] at hR
  repeat (refine nst ?_)
  refine z06 rfl (by simp) (fun h6=>?_) (fun h6=>?_)
  ·have h6':m<31:=by simpa using h6
   rw[if_pos h6'] at hR
   rw[←hR,if_neg (by simp)] at hTT
   subst hTT
   repeat (refine nst ?_)
   refine z0m rfl rfl rfl rfl rfl (by exact vcs) rfl rfl rfl (by rw[z1T]; rfl) (by rw[z2F]; rfl) rfl rfl ?_
   repeat (refine nst ?_)
   exact rt1 []
  ·have h6':¬ m<31:=by simpa using h6
   rw[if_neg h6'] at hR
   rw[←hR,if_pos rfl] at hTT
   subst hTT
   repeat (refine nst ?_)
   refine z0m rfl rfl rfl rfl rfl (by exact vcs) rfl rfl rfl (by rw[z3T]; rfl) (by rw[z7z]; rfl) rfl rfl ?_
   repeat (refine nst ?_)
   refine z0m rfl rfl rfl rfl rfl (by exact vcs) rfl rfl rfl (by rw[z1T]; rfl) (by rw[z2F]; rfl) rfl rfl ?_
   repeat (refine nst ?_)
   refine rt2 [] ?_ ?_
   ·show Av.tup [_,lv (.int .i64 ((p:Int)+((i:Int)+1)+1)),_]=_
    rw[show(p:Int)+((i:Int)+1)+1=((p+1+i+1:Nat):Int) by omega]
    rfl
   ·trivial
 ·have h5':¬ x<128:=by simpa using h5
  rw[if_neg h5'] at hR
  repeat (refine nst ?_)
  refine z08 ⟨⟨i+1,m⟩,⟨by dsimp only; omega,by dsimp only; omega,hR.trans hRR.symm,by dsimp only; omega,by dsimp only; omega⟩⟩ (by dsimp only; omega) (St.le_of ⟨⟨rfl,rfl,rfl,rfl,rfl,rfl⟩,⟨rfl,rfl⟩⟩)
theorem zkH (b:List Int) (p:Nat):lenP b p=if p<b.length then
  if b.getD p 0<128 then(b.getD p 0,p+1,0)
  else if b.getD p 0=128∨132<b.getD p 0 then(0,p,5)
  else if b.length<p+1+(b.getD p 0%128).toNat then(0,p,3)
  else if b.getD (p+1) 0=0∨z0F 0 ((b.drop (p+1)).take (b.getD p 0%128).toNat)<128 then(0,p,5)
  else if 16777216<z0F 0 ((b.drop (p+1)).take (b.getD p 0%128).toNat) then(0,p,2)
  else(z0F 0 ((b.drop (p+1)).take (b.getD p 0%128).toNat),p+1+(b.getD p 0%128).toNat,0)
  else(0,p,3):=by
 unfold lenP z3v z2Q
 repeat' split
 all_goals rfl
set_option maxHeartbeats 4000000 in
theorem zgE (l:List Int) (p:Nat) (hp:p≤l.length) (hl:l.length≤16000000) (hw:WfB l):Ct Tryz.prog 167 [B8 l,lv (.int .i64 (p:Int))] [] (.tup [lv (.int .i64 (lenP l p).1),lv (.int .i64 ((lenP l p).2.1:Int)),lv (.int .i64 (lenP l p).2.2)]) [] []:=by
 have hTT:=zkH l p
 generalize lenP l p=T at*
 refine z00 Tryz.func167 rfl rfl rfl rfl rfl (fun E hn hb=>?_)
 repeat (refine nst ?_)
 refine z06 rfl (by simp) (fun h1=>?_) (fun h1=>?_)
 ·have h1':¬ p<l.length:=by simp at h1; omega
  rw[if_neg h1'] at hTT
  subst hTT
  repeat (refine nst ?_)
  exact rt1 []
 have h1':p<l.length:=by simp at h1; omega
 rw[if_pos h1'] at hTT
 have hd:=z5E hw p
 repeat (refine nst ?_)
 rw[Int.toNat_natCast]
 generalize hdd:l.getD p 0=d at*
 repeat (refine nst ?_)
 refine z06 rfl (by simp) (fun h2=>?_) (fun h2=>?_)
 ·have h2':d<128:=by simpa using h2
  rw[if_pos h2'] at hTT
  subst hTT
  repeat (refine nst ?_)
  exact rt1 []
 have h2':¬ d<128:=by simpa using h2
 rw[if_neg h2'] at hTT
 repeat (refine nst ?_)
 refine z06 rfl (by simp) (fun h3=>?_) (fun h3=>?_)
 ·have h3':d=128∨132<d:=by
   by_cases hz:d=128
   ·exact .inl hz
   ·simp[hz] at h3; exact .inr h3
  rw[if_pos h3'] at hTT
  subst hTT
  repeat (refine nst ?_)
  exact rt1 []
 have h3':¬ (d=128∨132<d):=by
  rintro(rfl | h)
  ·simp at h3
  ·simp[h] at h3
 rw[if_neg h3'] at hTT
 obtain⟨n,hn'⟩:∃ n:Nat,d=((n+128:Nat):Int):=⟨(d -128).toNat,by omega⟩
 have en:(d%128).toNat=n:=by omega
 rw[en] at hTT
 clear en h3 h2
 subst hn'
 repeat (refine nst ?_)
 refine z06 rfl (by simp) (fun h4=>?_) (fun h4=>?_)
 ·have h4':l.length<p+1+n:=by simp at h4; omega
  rw[if_pos h4'] at hTT
  subst hTT
  repeat (refine nst ?_)
  exact rt1 []
 have h4':¬ l.length<p+1+n:=by simp at h4; omega
 rw[if_neg h4'] at hTT
 have hxl:((l.drop (p+1)).take n).length=n:=by simp; omega
 have hxg:∀ i,i<n→l.getD (p+1+i) 0=((l.drop (p+1)).take n).getD i 0:=fun i hi=>by
  simp only[List.getD_eq_getElem?_getD,List.getElem?_take,List.getElem?_drop]
  rw[if_pos (by omega)]
 have hxw:WfB ((l.drop (p+1)).take n):=fun x hx=>hw x (List.mem_of_mem_drop (List.mem_of_mem_take hx))
 generalize (l.drop (p+1)).take n=x at*
 repeat (refine nst ?_)
 rw[show(((n+128:Nat):Int) -128)=(n:Int) by omega]
 refine z09 (St.le_of (l:= [(0,B8 l),(1,lv (.int .i64 (p:Int))),(8,lv (.int .i64 (n:Int))),(9,lv (.int .i64 (z0F 0 (x.take 0)))),(10,lv (.int .i64 (((0:Nat):Int)+1)))]) (h:= []) (by refine⟨?_,?_⟩<;>(repeat' (first | exact trivial | exact rfl | refine⟨?_,?_⟩))<;>first | exact rfl |(simp; done) | skip)) ?_
 refine z0k (ι:= {i:Nat//i≤n}) (fun i=>St.of [(0,B8 l),(1,lv (.int .i64 (p:Int))),(8,lv (.int .i64 (n:Int))),(9,lv (.int .i64 (z0F 0 (x.take i.1)))),(10,lv (.int .i64 ((i.1:Int)+1)))] []) (fun i=>n -i.1) (fun i=>?_) ⟨0,by omega⟩
 obtain⟨i,hi⟩:=i
 dsimp only
 have hwt:WfB (x.take i):=zew hxw i
 have hv0:=z7o (x.take i) 0 (by decide) hwt
 have hv1:z0F 0 (x.take i)<256^4:=zhq (x.take i) 4 (by simp; omega) hwt
 repeat (refine nst ?_)
 refine z06 rfl (by simp) (fun hc=>?_) (fun hc=>?_)
 ·have hi8:i<n:=by simp at hc; omega
  have hx:=hxw x[i] (List.getElem_mem (by omega))
  have hT:x.take (i+1)=x.take i++ [x[i]]:=by rw[List.take_add_one,List.getElem?_eq_getElem (by omega)]; rfl
  have hg:l.getD ((p:Int)+((i:Int)+1)).toNat 0=x[i]:=by
   rw[show((p:Int)+((i:Int)+1)).toNat=p+1+i by omega,hxg i hi8]
   simp[show i<x.length by omega]
  have hvs:=zdb (x.take i) x[i]
  rw[←hT] at hvs
  generalize z0F 0 (x.take i)=v at*
  have hv2:v<4294967296:=by omega
  clear hv1
  repeat (refine nst ?_)
  rw[hg]
  repeat (refine nst ?_)
  refine z08 ⟨i+1,by omega⟩ (by dsimp only; omega) (St.le_of ⟨⟨rfl,rfl,rfl,?_,rfl⟩,trivial⟩)
  show lv (.int .i64 (256*v+x[i]))=lv (.int .i64 (z0F 0 (x.take (i+1))))
  rw[hvs]
 ·have:i=n:=by simp at hc; omega
  subst this
  rw[List.take_of_length_le (by omega)] at*
  generalize z0F 0 x=v at*
  repeat (refine nst ?_)
  rw[show((p:Int)+1).toNat=p+1 by omega]
  generalize l.getD (p+1) 0=z at*
  refine z06 rfl (by simp) (fun h2=>?_) (fun h2=>?_)
  ·have h2':z=0∨v<128:=by
    by_cases hz:z=0
    ·exact .inl hz
    ·simp[hz] at h2; exact .inr h2
   rw[if_pos h2'] at hTT
   subst hTT
   repeat (refine nst ?_)
   exact rt1 []
  ·have h2':¬ (z=0∨v<128):=by
    rintro(rfl | h)
    ·simp at h2
    ·simp[h] at h2
   rw[if_neg h2'] at hTT
   repeat (refine nst ?_)
   refine z06 rfl (by simp) (fun h3=>?_) (fun h3=>?_)
   ·have h3':16777216<v:=by simpa using h3
    rw[if_pos h3'] at hTT
    subst hTT
    repeat (refine nst ?_)
    exact rt1 []
   ·have h3':¬ 16777216<v:=by simpa using h3
    rw[if_neg h3'] at hTT
    subst hTT
    repeat (refine nst ?_)
    refine rt2 [] ?_ ?_
    ·show Av.tup [_,lv (.int .i64 ((p:Int)+(i:Int)+1)),_]=_
     rw[show(p:Int)+(i:Int)+1=((p+1+i:Nat):Int) by omega]
     rfl
    ·trivial
theorem ziA (b:List Int) (p:Nat):z0d b p=if(z0P b p).2.2=0 then
  if(lenP b (z0P b p).2.1).2.2=0 then(((z0P b p).1,(lenP b (z0P b p).2.1).1),(lenP b (z0P b p).2.1).2.1,0) else((z2n,0),p,(lenP b (z0P b p).2.1).2.2)
  else((z2n,0),p,(z0P b p).2.2):=by
 unfold z0d z36 z0U
 by_cases h1:(z0P b p).2.2=0
 ·rw[if_pos h1,if_pos h1]
  by_cases h2:(lenP b (z0P b p).2.1).2.2=0
  ·rw[if_pos h2,if_pos h2,h2]
  ·rw[if_neg h2,if_neg h2]
 ·rw[if_neg h1,if_neg h1,if_neg h1]
theorem ziB (b:List Int) (p:Nat) (t:z0h):z0r b p t=if(z0d b p).2.2=0 then
  if(z0d b p).1.1=t then
   if(b.length:Int) -((z0d b p).2.1:Int)<(z0d b p).1.2 then([],p,3)
   else((b.drop (z0d b p).2.1).take (z0d b p).1.2.toNat,(z0d b p).2.1+(z0d b p).1.2.toNat,0)
  else([],p,4)
  else([],p,(z0d b p).2.2):=by
 unfold z0r z23 z0U
 by_cases h1:(z0d b p).2.2=0
 ·rw[if_pos h1,if_pos h1]
  repeat' split
  all_goals first | rfl | simp_all
 ·rw[if_neg h1,if_neg h1,if_neg h1]
abbrev frR (r:(z0h×Int)×Nat×Int):Av:= .tup [z2c r.1.1,lv (.int .i64 r.1.2),lv (.int .i64 (r.2.1:Int)),lv (.int .i64 r.2.2)]
theorem z9H (l:List Int) (p:Nat) (hp:p≤l.length) (hl:l.length≤16000000) (hw:WfB l):Ct Tryz.prog 122 [B8 l,lv (.int .i64 (p:Int))] [] (frR (z0d l p)) [] []:=by
 have hTT:=ziA l p
 have ht:=zfp l p hp hl hw
 have hnl:=zgE l (z0P l p).2.1 (z8I l p hp).2 hl hw
 generalize z0d l p=R at*
 generalize z0P l p=T at*
 generalize lenP l T.2.1=N at*
 refine z00 Tryz.func122 rfl rfl rfl rfl rfl (fun E hn hb=>?_)
 repeat (refine nst ?_)
 refine z0E rfl rfl rfl (by rw[hn]; rfl) rfl z8g ?_
 repeat (refine nst ?_)
 refine z1C (ht) rfl rfl rfl (by rw[hn]; rfl) rfl rfl (by exact vcs) rfl rfl rfl ?_
 repeat (refine nst ?_)
 refine z0E rfl rfl rfl (by rw[hn]; rfl) rfl z8g ?_
 repeat (refine nst ?_)
 refine z0m rfl rfl rfl rfl rfl (by exact vcs) rfl rfl rfl (by rw[z1T]; rfl) (by rw[z2F]; rfl) rfl rfl ?_
 repeat (refine nst ?_)
 refine z06 rfl (by simp) (fun h1=>?_) (fun h1=>?_)
 ·have h1':¬ T.2.2=0:=by simpa using h1
  rw[if_neg h1'] at hTT
  subst hTT
  repeat (refine nst ?_)
  refine z0m rfl rfl rfl rfl rfl (by exact vcs) rfl rfl rfl (by rw[z1T]; rfl) (by rw[z2F]; rfl) rfl rfl ?_
  repeat (refine nst ?_)
  exact rt1 []
 have h1':T.2.2=0:=by simpa using h1
 rw[if_pos h1'] at hTT
 repeat (refine nst ?_)
 refine z1C (hnl) rfl rfl rfl (by rw[hn]; rfl) rfl rfl (by exact vcs) rfl rfl rfl ?_
 repeat (refine nst ?_)
 refine z06 rfl (by simp) (fun h2=>?_) (fun h2=>?_)
 ·have h2':¬ N.2.2=0:=by simpa using h2
  rw[if_neg h2'] at hTT
  subst hTT
  repeat (refine nst ?_)
  refine z0m rfl rfl rfl rfl rfl (by exact vcs) rfl rfl rfl (by rw[z1T]; rfl) (by rw[z2F]; rfl) rfl rfl ?_
  repeat (refine nst ?_)
  exact rt1 []
 have h2':N.2.2=0:=by simpa using h2
 rw[if_pos h2'] at hTT
 subst hTT
 repeat (refine nst ?_)
 refine z0m rfl rfl rfl rfl rfl (by exact vcs) rfl rfl rfl (by rw[z1T]; rfl) (by rw[z2F]; rfl) rfl rfl ?_
 repeat (refine nst ?_)
 exact rt1 []
def z4A (l:List Int) (p:Nat):List Int×Nat×Int:=
 let r:=z0r l p (ofT 6)
 if r.2.2=0 then(let x:=z2J r.1; if x.2=0 then(x.1,r.2.1,0) else([],p,x.2)) else([],p,r.2.2)
theorem ziC (l:List Int) (p:Nat) (hp:p≤l.length) (hl:l.length≤16000000) (hw:WfB l):Ct Tryz.prog 233 [.c (.ptr 0 0)] [z04 l p] (.tup [I64 (z4A l p).1,lv (.int .i64 (z4A l p).2.2)]) [z04 l (z4A l p).2.1] []:=by
 have hat:=z1z l p
 have hho:=z1d 6
 have hop:=z26 l p (ofT 6) hp hl hw
 have hoe:=z2s l p (ofT 6) hp hl hw
 have hle:=z24 l p (ofT 6) hp
 have hmem:=z0H l p (ofT 6)
 unfold z4A
 generalize z0r l p (ofT 6)=X at*
 obtain⟨x,q,e⟩:=X
 dsimp only at*
 by_cases he:e=0
 ·subst he
  have hop:=hop rfl
  rw[if_pos rfl]
  have hre:=z6B x 0 (Nat.zero_le _) (by omega)
  rw[List.drop_zero] at hre
  have hpa:=zbc x (by omega) (fun y hy=>hw y (hmem.2 y hy))
  have hbk:=z1L l q p hle.1 (by omega)
  generalize z2J x=Y at*
  obtain⟨o,f⟩:=Y
  dsimp only at*
  by_cases hf:f=0
  ·subst hf
   rw[if_pos rfl]
   refine z00 Tryz.func233 rfl rfl rfl rfl rfl (fun E hn hb=>?_)
   repeat refine nx ?_
   exact rtU []
  ·rw[if_neg hf]
   refine z00 Tryz.func233 rfl rfl rfl rfl rfl (fun E hn hb=>?_)
   repeat refine nx ?_
   exact rtU []
 ·have hoe:=hoe he
  rw[if_neg he]
  refine z00 Tryz.func233 rfl rfl rfl rfl rfl (fun E hn hb=>?_)
  repeat refine nx ?_
  exact rtU []
theorem zdZ (l:List Int) (p:Nat) (hp:p≤l.length):p≤(z4A l p).2.1∧(z4A l p).2.1≤l.length:=by
 have h:=z24 l p (ofT 6) hp
 unfold z4A
 dsimp only
 split
 ·split
  ·exact h
  ·exact⟨Nat.le_refl _,hp⟩
 ·exact⟨Nat.le_refl _,hp⟩
theorem ze0 (s:Nat) (hs:s≤8) (n:Int) (h:0≤n∧n<4611686018427387904):IntKind.i64.wrap (BitVec.ofInt IntKind.i64.bits n&&& BitVec.ofInt IntKind.i64.bits (2^s -1)).toNat=n%2^s:=by
 obtain⟨n,rfl⟩:∃ m:Nat,n=m:=⟨n.toNat,by omega⟩
 have hp:(2:Nat)^s≤256:=Nat.pow_le_pow_right (by decide) hs
 have hp1:0<(2:Nat)^s:=Nat.pow_pos (by decide)
 have e0:(2:Int)^s -1=((2^s -1:Nat):Int):=by
  have:((2^s:Nat):Int)=(2:Int)^s:=by simp
  omega
 have e3:((n:Int)%2^s)=((n%2^s:Nat):Int):=by simp
 rw[e0,e3]
 have hm:=Nat.and_two_pow_sub_one_eq_mod n s
 have hlt:n%2^s<256:=Nat.lt_of_lt_of_le (Nat.mod_lt _ hp1) hp
 rw[←hm] at hlt ⊢
 have e1:(BitVec.ofInt IntKind.i64.bits (n:Int)).toNat=n:=by
  rw[BitVec.toNat_ofInt]; simp only[IntKind.bits]; omega
 have e2:(BitVec.ofInt IntKind.i64.bits ((2^s -1:Nat):Int)).toNat=2^s -1:=by
  rw[BitVec.toNat_ofInt]; simp only[IntKind.bits]; omega
 rw[BitVec.toNat_and,e1,e2]
 generalize n&&& (2^s -1)=z at*
 simp only[IntKind.wrap,IntKind.signed,IntKind.bits]
 simp
 omega
abbrev iB (n:Int):Blk:= .cells [.lf (.v (.int .i64 n))]
theorem zgF (acc:List Int) (n:Int) (hn0:0≤n∧n<4611686018427387904) (hl:acc.length≤1000):
  CtM Tryz.prog 231 [.c (.ptr 0 0),.c (.ptr 1 0),.c (.ptr 2 0)] [.cells [.own 3 1 0 acc.length],iB n,iB 7,.row (.ints .u8 acc)] (.tup [])
   [.cells [.own 4 1 0 (acc.length+1)],iB n,iB 7,.gone] [.row (.ints .u8 (acc++ [n%128]))]:=by
 have ha:IntKind.i64.wrap (BitVec.ofInt IntKind.i64.bits n&&& BitVec.ofInt IntKind.i64.bits (1*2^min (Int.toNat 7) IntKind.i64.bits -1)).toNat=n%128:=ze0 7 (by decide) n hn0
 refine z17 Tryz.func231 rfl rfl rfl rfl rfl (fun E hn hb=>?_)
 repeat (refine nst ?_)
 refine z2V 8 (by kernel_rfl) (by kernel_rfl) (by kernel_rfl) (by rw[hn]; rfl) rfl rfl ?_
 repeat (first | refine dp1 ?_ | refine dg1 ?_ | refine z1i ?_)
 rw[ha]
 refine z2y rfl (z1N (z7m (d:=(.ints .u8 [n%128])) rfl (z0n Tryz.underlying28 rfl rfl) z2R rfl (by exact vcs) rfl ⟨by decide,by decide,rfl,rfl⟩) rfl) ?_
 repeat (first | refine dp1 ?_ | refine dg1 ?_ | refine z1i ?_)
 repeat (refine nst ?_)
 refine z6a 95 rfl rfl rfl rfl rfl (by rw[hn]; rfl) (z0n Tryz.underlying28 rfl rfl) rfl rfl rfl rfl ?_ (by simp) ⟨by simp; omega,by decide⟩ ?_ ?_
 ·trivial
 ·repeat (refine nst ?_)
  refine z0m rfl rfl rfl rfl rfl (by exact vcs) rfl rfl rfl (by rw[z3l]; rfl) (by rw[z4R]; rfl) rfl rfl ?_
  rw[Nat.zero_add,List.take_length]
  repeat (refine nst ?_)
  exact z5Z [3] rfl (by trivial) ⟨rfl,⟨.inr rfl,.inr rfl,.inr rfl,.inl rfl⟩,rfl,rfl⟩ hb rfl
 ·repeat (refine nst ?_)
  refine z0m rfl rfl rfl rfl rfl (by exact vcs) rfl rfl rfl (by rw[z3l]; rfl) (by rw[z4R]; rfl) rfl rfl ?_
  rw[Nat.zero_add,List.take_length,List.drop_zero]
  repeat (refine nst ?_)
  exact z5Z [95] rfl (by trivial) ⟨rfl,⟨.inr rfl,.inr rfl,.inr rfl,.inl rfl⟩,rfl,rfl⟩ hb rfl
theorem zgG (acc:List Int) (n:Int) (hn0:0≤n∧n<4611686018427387904) (hl:acc.length≤1000):
  CtM Tryz.prog 231 [.c (.ptr 0 0),.c (.ptr 1 0),.c (.ptr 2 0)] [.cells [.own 3 1 0 acc.length],iB n,iB 8,.row (.ints .u8 acc)] (.tup [])
   [.cells [.own 4 1 0 (acc.length+1)],iB n,iB 8,.gone] [.row (.ints .u8 (acc++ [n%256]))]:=by
 have ha:IntKind.i64.wrap (BitVec.ofInt IntKind.i64.bits n&&& BitVec.ofInt IntKind.i64.bits (1*2^min (Int.toNat 8) IntKind.i64.bits -1)).toNat=n%256:=ze0 8 (by decide) n hn0
 refine z17 Tryz.func231 rfl rfl rfl rfl rfl (fun E hn hb=>?_)
 repeat (refine nst ?_)
 refine z2V 8 (by kernel_rfl) (by kernel_rfl) (by kernel_rfl) (by rw[hn]; rfl) rfl rfl ?_
 repeat (first | refine dp1 ?_ | refine dg1 ?_ | refine z1i ?_)
 rw[ha]
 refine z2y rfl (z1N (z7m (d:=(.ints .u8 [n%256])) rfl (z0n Tryz.underlying28 rfl rfl) z2R rfl (by exact vcs) rfl ⟨by decide,by decide,rfl,rfl⟩) rfl) ?_
 repeat (first | refine dp1 ?_ | refine dg1 ?_ | refine z1i ?_)
 repeat (refine nst ?_)
 refine z6a 95 rfl rfl rfl rfl rfl (by rw[hn]; rfl) (z0n Tryz.underlying28 rfl rfl) rfl rfl rfl rfl ?_ (by simp) ⟨by simp; omega,by decide⟩ ?_ ?_
 ·trivial
 ·repeat (refine nst ?_)
  refine z0m rfl rfl rfl rfl rfl (by exact vcs) rfl rfl rfl (by rw[z3l]; rfl) (by rw[z4R]; rfl) rfl rfl ?_
  rw[Nat.zero_add,List.take_length]
  repeat (refine nst ?_)
  exact z5Z [3] rfl (by trivial) ⟨rfl,⟨.inr rfl,.inr rfl,.inr rfl,.inl rfl⟩,rfl,rfl⟩ hb rfl
 ·repeat (refine nst ?_)
  refine z0m rfl rfl rfl rfl rfl (by exact vcs) rfl rfl rfl (by rw[z3l]; rfl) (by rw[z4R]; rfl) rfl rfl ?_
  rw[Nat.zero_add,List.take_length,List.drop_zero]
  repeat (refine nst ?_)
  exact z5Z [95] rfl (by trivial) ⟨rfl,⟨.inr rfl,.inr rfl,.inr rfl,.inl rfl⟩,rfl,rfl⟩ hb rfl
end Go.Proofs.YtaagjnlkinojcaaGreat

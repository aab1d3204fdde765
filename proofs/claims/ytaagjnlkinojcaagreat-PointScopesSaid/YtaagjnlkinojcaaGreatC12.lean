/-
  Chapter 02: digits to a base that is a power of two. The conditions: numbers that a machine can hold.
-/
import Derived.Test.YtaagjnlkinojcaaGreatC8
import Derived.Test.YtaagjnlkinojcaaGreatSxN
import Derived.Test.YtaagjnlkinojcaaGreatW10
namespace Go.Proofs.YtaagjnlkinojcaaGreat
set_option linter.unusedSimpArgs false
set_option linter.unusedVariables false
open Go.Sx
set_option maxRecDepth 10000
theorem zkz (b:List Int) (p:Nat):lenP b p=if p<b.length then
  if b.getD p 0<128 then(b.getD p 0,p+1,0)
  else if b.getD p 0=128∨132<b.getD p 0 then(0,p,5)
  else if b.length<p+1+(b.getD p 0%128).toNat then(0,p,3)
  else if b.getD (p+1) 0=0∨z0G 0 ((b.drop (p+1)).take (b.getD p 0%128).toNat)<128 then(0,p,5)
  else if 16777216<z0G 0 ((b.drop (p+1)).take (b.getD p 0%128).toNat) then(0,p,2)
  else(z0G 0 ((b.drop (p+1)).take (b.getD p 0%128).toNat),p+1+(b.getD p 0%128).toNat,0)
  else(0,p,3):=by
 unfold lenP z3w z2P
 repeat' split
 all_goals rfl
set_option maxHeartbeats 4000000 in
theorem zgp (l:List Int) (p:Nat) (hp:p≤l.length) (hl:l.length≤16000000) (hw:WfB l):Ct Tryz.prog 167 [B8 l,lv (.int .i64 (p:Int))] [] (.tup [lv (.int .i64 (lenP l p).1),lv (.int .i64 ((lenP l p).2.1:Int)),lv (.int .i64 (lenP l p).2.2)]) [] []:=by
 have hTT:=zkz l p
 generalize lenP l p=T at*
 refine z00 Tryz.func167 rfl rfl rfl rfl rfl (fun E hn hb=>?_)
 repeat (refine nst ?_)
 refine z06 rfl (by simp) (fun h1=>?_) (fun h1=>?_)
 ·have h1':¬ p<l.length:=by simp at h1; omega
  rw[if_neg h1'] at hTT
  subst hTT
  repeat (refine nst ?_)
  exact rt1 []
 have h1':p<l.length:=by simp at h1; omega
 rw[if_pos h1'] at hTT
 have hd:=z5C hw p
 repeat (refine nst ?_)
 rw[Int.toNat_natCast]
 generalize hdd:l.getD p 0=d at*
 repeat (refine nst ?_)
 refine z06 rfl (by simp) (fun h2=>?_) (fun h2=>?_)
 ·have h2':d<128:=by simpa using h2
  rw[if_pos h2'] at hTT
  subst hTT
  repeat (refine nst ?_)
  exact rt1 []
 have h2':¬ d<128:=by simpa using h2
 rw[if_neg h2'] at hTT
 repeat (refine nst ?_)
 refine z06 rfl (by simp) (fun h3=>?_) (fun h3=>?_)
 ·have h3':d=128∨132<d:=by
   by_cases hz:d=128
   ·exact .inl hz
   ·simp[hz] at h3; exact .inr h3
  rw[if_pos h3'] at hTT
  subst hTT
  repeat (refine nst ?_)
  exact rt1 []
 have h3':¬ (d=128∨132<d):=by
  rintro(rfl | h)
  ·simp at h3
  ·simp[h] at h3
 rw[if_neg h3'] at hTT
 obtain⟨n,hn'⟩:∃ n:Nat,d=((n+128:Nat):Int):=⟨(d -128).toNat,by omega⟩
 have en:(d%128).toNat=n:=by omega
 rw[en] at hTT
 clear en h3 h2
 subst hn'
 repeat (refine nst ?_)
 refine z06 rfl (by simp) (fun h4=>?_) (fun h4=>?_)
 ·have h4':l.length<p+1+n:=by simp at h4; omega
  rw[if_pos h4'] at hTT
  subst hTT
  repeat (refine nst ?_)
  exact rt1 []
 have h4':¬ l.length<p+1+n:=by simp at h4; omega
 rw[if_neg h4'] at hTT
 have hxl:((l.drop (p+1)).take n).length=n:=by simp; omega
 have hxg:∀ i,i<n→l.getD (p+1+i) 0=((l.drop (p+1)).take n).getD i 0:=fun i hi=>by
  simp only[List.getD_eq_getElem?_getD,List.getElem?_take,List.getElem?_drop]
  rw[if_pos (by omega)]
 have hxw:WfB ((l.drop (p+1)).take n):=fun x hx=>hw x (List.mem_of_mem_drop (List.mem_of_mem_take hx))
 generalize (l.drop (p+1)).take n=x at*
 repeat (refine nst ?_)
 rw[show(((n+128:Nat):Int) -128)=(n:Int) by omega]
 refine z09 (St.le_of (l:= [(0,B8 l),(1,lv (.int .i64 (p:Int))),(8,lv (.int .i64 (n:Int))),(9,lv (.int .i64 (z0G 0 (x.take 0)))),(10,lv (.int .i64 (((0:Nat):Int)+1)))]) (h:= []) (by refine⟨?_,?_⟩<;>(repeat' (first | exact trivial | exact rfl | refine⟨?_,?_⟩))<;>first | exact rfl |(simp; done) | skip)) ?_
 refine z0h (ι:= {i:Nat//i≤n}) (fun i=>St.of [(0,B8 l),(1,lv (.int .i64 (p:Int))),(8,lv (.int .i64 (n:Int))),(9,lv (.int .i64 (z0G 0 (x.take i.1)))),(10,lv (.int .i64 ((i.1:Int)+1)))] []) (fun i=>n -i.1) (fun i=>?_) ⟨0,by omega⟩
 obtain⟨i,hi⟩:=i
 dsimp only
 have hwt:WfB (x.take i):=zem hxw i
 have hv0:=z7r (x.take i) 0 (by decide) hwt
 have hv1:z0G 0 (x.take i)<256^4:=zhi (x.take i) 4 (by simp; omega) hwt
 repeat (refine nst ?_)
 refine z06 rfl (by simp) (fun hc=>?_) (fun hc=>?_)
 ·have hi8:i<n:=by simp at hc; omega
  have hx:=hxw x[i] (List.getElem_mem (by omega))
  have hT:x.take (i+1)=x.take i++ [x[i]]:=by rw[List.take_add_one,List.getElem?_eq_getElem (by omega)]; rfl
  have hg:l.getD ((p:Int)+((i:Int)+1)).toNat 0=x[i]:=by
   rw[show((p:Int)+((i:Int)+1)).toNat=p+1+i by omega,hxg i hi8]
   simp[show i<x.length by omega]
  have hvs:=zdc (x.take i) x[i]
  rw[←hT] at hvs
  generalize z0G 0 (x.take i)=v at*
  have hv2:v<4294967296:=by omega
  clear hv1
  repeat (refine nst ?_)
  rw[hg]
  repeat (refine nst ?_)
  refine z07 ⟨i+1,by omega⟩ (by dsimp only; omega) (St.le_of ⟨⟨rfl,rfl,rfl,?_,rfl⟩,trivial⟩)
  show lv (.int .i64 (256*v+x[i]))=lv (.int .i64 (z0G 0 (x.take (i+1))))
  rw[hvs]
 ·have:i=n:=by simp at hc; omega
  subst this
  rw[List.take_of_length_le (by omega)] at*
  generalize z0G 0 x=v at*
  repeat (refine nst ?_)
  rw[show((p:Int)+1).toNat=p+1 by omega]
  generalize l.getD (p+1) 0=z at*
  refine z06 rfl (by simp) (fun h2=>?_) (fun h2=>?_)
  ·have h2':z=0∨v<128:=by
    by_cases hz:z=0
    ·exact .inl hz
    ·simp[hz] at h2; exact .inr h2
   rw[if_pos h2'] at hTT
   subst hTT
   repeat (refine nst ?_)
   exact rt1 []
  ·have h2':¬ (z=0∨v<128):=by
    rintro(rfl | h)
    ·simp at h2
    ·simp[h] at h2
   rw[if_neg h2'] at hTT
   repeat (refine nst ?_)
   refine z06 rfl (by simp) (fun h3=>?_) (fun h3=>?_)
   ·have h3':16777216<v:=by simpa using h3
    rw[if_pos h3'] at hTT
    subst hTT
    repeat (refine nst ?_)
    exact rt1 []
   ·have h3':¬ 16777216<v:=by simpa using h3
    rw[if_neg h3'] at hTT
    subst hTT
    repeat (refine nst ?_)
    refine rt2 [] ?_ ?_
    ·show Av.tup [_,lv (.int .i64 ((p:Int)+(i:Int)+1)),_]=_
     rw[show(p:Int)+(i:Int)+1=((p+1+i:Nat):Int) by omega]
     rfl
    ·trivial
theorem ziv (b:List Int) (p:Nat):z0a b p=if(z0S b p).2.2=0 then
  if(lenP b (z0S b p).2.1).2.2=0 then(((z0S b p).1,(lenP b (z0S b p).2.1).1),(lenP b (z0S b p).2.1).2.1,0) else((z2R,0),p,(lenP b (z0S b p).2.1).2.2)
  else((z2R,0),p,(z0S b p).2.2):=by
 unfold z0a z33 z0M
 by_cases h1:(z0S b p).2.2=0
 ·rw[if_pos h1,if_pos h1]
  by_cases h2:(lenP b (z0S b p).2.1).2.2=0
  ·rw[if_pos h2,if_pos h2,h2]
  ·rw[if_neg h2,if_neg h2]
 ·rw[if_neg h1,if_neg h1,if_neg h1]
theorem zcz (b:List Int) (p:Nat) (t:z0g):z0m b p t=if(z0a b p).2.2=0 then
  if(z0a b p).1.1=t then
   if(b.length:Int) -((z0a b p).2.1:Int)<(z0a b p).1.2 then([],p,3)
   else((b.drop (z0a b p).2.1).take (z0a b p).1.2.toNat,(z0a b p).2.1+(z0a b p).1.2.toNat,0)
  else([],p,4)
  else([],p,(z0a b p).2.2):=by
 unfold z0m z20 z0M
 by_cases h1:(z0a b p).2.2=0
 ·rw[if_pos h1,if_pos h1]
  repeat' split
  all_goals first | rfl | simp_all
 ·rw[if_neg h1,if_neg h1,if_neg h1]
abbrev frR (r:(z0g×Int)×Nat×Int):Av:= .tup [z21 r.1.1,lv (.int .i64 r.1.2),lv (.int .i64 (r.2.1:Int)),lv (.int .i64 r.2.2)]
theorem z3o (l:List Int) (p:Nat) (hp:p≤l.length) (hl:l.length≤16000000) (hw:WfB l):Ct Tryz.prog 122 [B8 l,lv (.int .i64 (p:Int))] [] (frR (z0a l p)) [] []:=by
 have hTT:=ziv l p
 have ht:=zfp l p hp hl hw
 have hnl:=zgp l (z0S l p).2.1 (z8H l p hp).2 hl hw
 generalize z0a l p=R at*
 generalize z0S l p=T at*
 generalize lenP l T.2.1=N at*
 refine z00 Tryz.func122 rfl rfl rfl rfl rfl (fun E hn hb=>?_)
 repeat (refine nst ?_)
 refine z0B rfl rfl rfl (by rw[hn]; rfl) rfl z6I ?_
 repeat (refine nst ?_)
 refine z1r (ht) rfl rfl rfl (by rw[hn]; rfl) rfl rfl (by exact vcs) rfl rfl rfl ?_
 repeat (refine nst ?_)
 refine z0B rfl rfl rfl (by rw[hn]; rfl) rfl z6I ?_
 repeat (refine nst ?_)
 refine z0k rfl rfl rfl rfl rfl (by exact vcs) rfl rfl rfl (by rw[z1l]; rfl) (by rw[z2o]; rfl) rfl rfl ?_
 repeat (refine nst ?_)
 refine z06 rfl (by simp) (fun h1=>?_) (fun h1=>?_)
 ·have h1':¬ T.2.2=0:=by simpa using h1
  rw[if_neg h1'] at hTT
  subst hTT
  repeat (refine nst ?_)
  refine z0k rfl rfl rfl rfl rfl (by exact vcs) rfl rfl rfl (by rw[z1l]; rfl) (by rw[z2o]; rfl) rfl rfl ?_
  repeat (refine nst ?_)
  exact rt1 []
 have h1':T.2.2=0:=by simpa using h1
 rw[if_pos h1'] at hTT
 repeat (refine nst ?_)
 refine z1r (hnl) rfl rfl rfl (by rw[hn]; rfl) rfl rfl (by exact vcs) rfl rfl rfl ?_
 repeat (refine nst ?_)
 refine z06 rfl (by simp) (fun h2=>?_) (fun h2=>?_)
 ·have h2':¬ N.2.2=0:=by simpa using h2
  rw[if_neg h2'] at hTT
  subst hTT
  repeat (refine nst ?_)
  refine z0k rfl rfl rfl rfl rfl (by exact vcs) rfl rfl rfl (by rw[z1l]; rfl) (by rw[z2o]; rfl) rfl rfl ?_
  repeat (refine nst ?_)
  exact rt1 []
 have h2':N.2.2=0:=by simpa using h2
 rw[if_pos h2'] at hTT
 subst hTT
 repeat (refine nst ?_)
 refine z0k rfl rfl rfl rfl rfl (by exact vcs) rfl rfl rfl (by rw[z1l]; rfl) (by rw[z2o]; rfl) rfl rfl ?_
 repeat (refine nst ?_)
 exact rt1 []
abbrev opR (r:List Int×Nat×Int):Av:= .tup [B8 r.1,lv (.int .i64 (r.2.1:Int)),lv (.int .i64 r.2.2)]
theorem z3p (l:List Int) (p:Nat) (t:z0g) (hp:p≤l.length) (hl:l.length≤16000000) (hw:WfB l):Ct Tryz.prog 57 [B8 l,lv (.int .i64 (p:Int)),z21 t] [] (opR (z0m l p t)) [] []:=by
 have hTT:=zcz l p t
 have hr:=z3o l p hp hl hw
 have hle:=z17 l p hp
 have hpos:=z1V l p hw
 generalize z0m l p t=R at*
 generalize z0a l p=F at*
 refine z00 Tryz.func57 rfl rfl rfl rfl rfl (fun E hn hb=>?_)
 repeat (refine nst ?_)
 refine z1q rfl rfl rfl (by rw[hn]; rfl) rfl (by exact vcs) rfl rfl ?_
 repeat (refine nst ?_)
 refine z1r (hr) rfl rfl rfl (by rw[hn]; rfl) rfl rfl (by exact vcs) rfl rfl rfl ?_
 repeat (refine nst ?_)
 refine z0B rfl rfl rfl (by rw[hn]; rfl) rfl z6I ?_
 repeat (refine nst ?_)
 refine z0k rfl rfl rfl rfl rfl (by exact vcs) rfl rfl rfl (by rw[z1l]; rfl) (by rw[z2o]; rfl) rfl rfl ?_
 repeat (refine nst ?_)
 refine z06 rfl (by simp) (fun h1=>?_) (fun h1=>?_)
 ·have h1':¬ F.2.2=0:=by simpa using h1
  rw[if_neg h1'] at hTT
  subst hTT
  repeat (refine nst ?_)
  refine z6B [] rfl (by simp) (r':= .tup [B8 [],lv (.int .i64 (p:Int)),lv (.int .i64 F.2.2)]) ⟨.inr ⟨rfl,.inl ⟨_,rfl⟩⟩,.inl rfl,.inl rfl,trivial⟩ ⟨rfl,trivial,trivial,rfl⟩ hb rfl trivial
 have h1':F.2.2=0:=by simpa using h1
 rw[if_pos h1'] at hTT
 repeat (refine nst ?_)
 refine z0W (z0E (z8G (neg:=true) (l:=z0L F.1.1) (m:=z0L t) rfl zfC zj9 (by first | rfl |(rw[z1l]; rfl)) (by first | rfl |(rw[z1l]; rfl)) (by trivial) zh5 (zja _ _)) rfl) (by rw[hn]; rfl) ?_
 rw[eqT]
 repeat (refine nst ?_)
 refine z06 rfl (by simp) (fun h2=>?_) (fun h2=>?_)
 ·have h2':¬ F.1.1=t:=by simpa using h2
  rw[if_neg h2'] at hTT
  subst hTT
  repeat (refine nst ?_)
  refine z6B [] rfl (by simp) (r':= .tup [B8 [],lv (.int .i64 (p:Int)),lv (.int .i64 4)]) ⟨.inr ⟨rfl,.inl ⟨_,rfl⟩⟩,.inl rfl,.inl rfl,trivial⟩ ⟨rfl,trivial,trivial,rfl⟩ hb rfl trivial
 have h2':F.1.1=t:=by simpa using h2
 rw[if_pos h2'] at hTT
 repeat (refine nst ?_)
 refine z06 rfl (by simp) (fun h3=>?_) (fun h3=>?_)
 ·have h3':(l.length:Int) -(F.2.1:Int)<F.1.2:=by simpa using h3
  rw[if_pos h3'] at hTT
  subst hTT
  repeat (refine nst ?_)
  refine z6B [] rfl (by simp) (r':= .tup [B8 [],lv (.int .i64 (p:Int)),lv (.int .i64 3)]) ⟨.inr ⟨rfl,.inl ⟨_,rfl⟩⟩,.inl rfl,.inl rfl,trivial⟩ ⟨rfl,trivial,trivial,rfl⟩ hb rfl trivial
 have h3':¬ (l.length:Int) -(F.2.1:Int)<F.1.2:=by simpa using h3
 rw[if_neg h3'] at hTT
 obtain⟨n,hn'⟩:∃ n:Nat,F.1.2=(n:Int):=⟨F.1.2.toNat,by omega⟩
 rw[hn',Int.toNat_natCast] at hTT
 subst hTT
 clear h3
 rw[hn'] at h3' hpos
 repeat (refine nst ?_)
 rw[hn']
 repeat (refine nst ?_)
 refine rt2 [] ?_ ?_
 ·show Av.tup [B8 ((List.take ((F.2.1:Int)+(n:Int)).toNat l).drop (F.2.1:Int).toNat),lv (.int .i64 ((F.2.1:Int)+(n:Int))),lv (.int .i64 0)]=_
  rw[show((F.2.1:Int)+(n:Int))=((F.2.1+n:Nat):Int) by omega,Int.toNat_natCast,Int.toNat_natCast,List.drop_take,Nat.add_sub_cancel_left]
  rfl
 ·trivial
def z3q (l:List Int) (p:Nat):List Int×Nat×Int:=
 let r:=z0m l p (ofT 6)
 if r.2.2=0 then(let x:=z2w r.1; if x.2=0 then(x.1,r.2.1,0) else([],p,x.2)) else([],p,r.2.2)
theorem ziw (l:List Int) (p:Nat) (hp:p≤l.length) (hl:l.length≤16000000) (hw:WfB l):Ct Tryz.prog 233 [.c (.ptr 0 0)] [z05 l p] (.tup [I64 (z3q l p).1,lv (.int .i64 (z3q l p).2.2)]) [z05 l (z3q l p).2.1] []:=by
 have hat:=z1W l p
 have hho:=z1G 6
 have hop:=z2m l p (ofT 6) hp hl hw
 have hoe:=z31 l p (ofT 6) hp hl hw
 have hle:=z3Q l p (ofT 6) hp
 have hmem:=z0H l p (ofT 6)
 unfold z3q
 generalize z0m l p (ofT 6)=X at*
 obtain⟨x,q,e⟩:=X
 dsimp only at*
 by_cases he:e=0
 ·subst he
  have hop:=hop rfl
  rw[if_pos rfl]
  have hre:=z6s x 0 (Nat.zero_le _) (by omega)
  rw[List.drop_zero] at hre
  have hpa:=zb9 x (by omega) (fun y hy=>hw y (hmem.2 y hy))
  have hbk:=z24 l q p hle.1 (by omega)
  generalize z2w x=Y at*
  obtain⟨o,f⟩:=Y
  dsimp only at*
  by_cases hf:f=0
  ·subst hf
   rw[if_pos rfl]
   refine z00 Tryz.func233 rfl rfl rfl rfl rfl (fun E hn hb=>?_)
   repeat refine nx ?_
   exact rtU []
  ·rw[if_neg hf]
   refine z00 Tryz.func233 rfl rfl rfl rfl rfl (fun E hn hb=>?_)
   repeat refine nx ?_
   exact rtU []
 ·have hoe:=hoe he
  rw[if_neg he]
  refine z00 Tryz.func233 rfl rfl rfl rfl rfl (fun E hn hb=>?_)
  repeat refine nx ?_
  exact rtU []
theorem zay (l:List Int) (p:Nat) (hp:p≤l.length):p≤(z3q l p).2.1∧(z3q l p).2.1≤l.length:=by
 have h:=z3Q l p (ofT 6) hp
 unfold z3q
 dsimp only
 split
 ·split
  ·exact h
  ·exact⟨Nat.le_refl _,hp⟩
 ·exact⟨Nat.le_refl _,hp⟩
theorem zdX (s:Nat) (hs:s≤8) (n:Int) (h:0≤n∧n<4611686018427387904):IntKind.i64.wrap (BitVec.ofInt IntKind.i64.bits n&&& BitVec.ofInt IntKind.i64.bits (2^s -1)).toNat=n%2^s:=by
 obtain⟨n,rfl⟩:∃ m:Nat,n=m:=⟨n.toNat,by omega⟩
 have hp:(2:Nat)^s≤256:=Nat.pow_le_pow_right (by decide) hs
 have hp1:0<(2:Nat)^s:=Nat.pow_pos (by decide)
 have e0:(2:Int)^s -1=((2^s -1:Nat):Int):=by
  have:((2^s:Nat):Int)=(2:Int)^s:=by simp
  omega
 have e3:((n:Int)%2^s)=((n%2^s:Nat):Int):=by simp
 rw[e0,e3]
 have hm:=Nat.and_two_pow_sub_one_eq_mod n s
 have hlt:n%2^s<256:=Nat.lt_of_lt_of_le (Nat.mod_lt _ hp1) hp
 rw[←hm] at hlt ⊢
 have e1:(BitVec.ofInt IntKind.i64.bits (n:Int)).toNat=n:=by
  rw[BitVec.toNat_ofInt]; simp only[IntKind.bits]; omega
 have e2:(BitVec.ofInt IntKind.i64.bits ((2^s -1:Nat):Int)).toNat=2^s -1:=by
  rw[BitVec.toNat_ofInt]; simp only[IntKind.bits]; omega
 rw[BitVec.toNat_and,e1,e2]
 generalize n&&& (2^s -1)=z at*
 simp only[IntKind.wrap,IntKind.signed,IntKind.bits]
 simp
 omega
abbrev iB (n:Int):Blk:= .cells [.lf (.v (.int .i64 n))]
theorem zgq (acc:List Int) (n:Int) (hn0:0≤n∧n<4611686018427387904) (hl:acc.length≤1000):
  CtM Tryz.prog 231 [.c (.ptr 0 0),.c (.ptr 1 0),.c (.ptr 2 0)] [.cells [.own 3 1 0 acc.length],iB n,iB 7,.row (.ints .u8 acc)] (.tup [])
   [.cells [.own 4 1 0 (acc.length+1)],iB n,iB 7,.gone] [.row (.ints .u8 (acc++ [n%128]))]:=by
 have ha:IntKind.i64.wrap (BitVec.ofInt IntKind.i64.bits n&&& BitVec.ofInt IntKind.i64.bits (1*2^min (Int.toNat 7) IntKind.i64.bits -1)).toNat=n%128:=zdX 7 (by decide) n hn0
 refine z18 Tryz.func231 rfl rfl rfl rfl rfl (fun E hn hb=>?_)
 repeat (refine nst ?_)
 refine z2V 8 (by kernel_rfl) (by kernel_rfl) (by kernel_rfl) (by rw[hn]; rfl) rfl rfl ?_
 repeat (first | refine dp1 ?_ | refine dg1 ?_ | refine z1i ?_)
 rw[ha]
 refine z2x rfl (z1I (z7q (d:=(.ints .u8 [n%128])) rfl (z0n Tryz.underlying28 rfl rfl) z2S rfl (by exact vcs) rfl ⟨by decide,by decide,rfl,rfl⟩) rfl) ?_
 repeat (first | refine dp1 ?_ | refine dg1 ?_ | refine z1i ?_)
 repeat (refine nst ?_)
 refine z65 95 rfl rfl rfl rfl rfl (by rw[hn]; rfl) (z0n Tryz.underlying28 rfl rfl) rfl rfl rfl rfl ?_ (by simp) ⟨by simp; omega,by decide⟩ ?_ ?_
 ·trivial
 ·repeat (refine nst ?_)
  refine z0k rfl rfl rfl rfl rfl (by exact vcs) rfl rfl rfl (by rw[z3m]; rfl) (by rw[z4L]; rfl) rfl rfl ?_
  rw[Nat.zero_add,List.take_length]
  repeat (refine nst ?_)
  exact z5W [3] rfl (by trivial) ⟨rfl,⟨.inr rfl,.inr rfl,.inr rfl,.inl rfl⟩,rfl,rfl⟩ hb rfl
 ·repeat (refine nst ?_)
  refine z0k rfl rfl rfl rfl rfl (by exact vcs) rfl rfl rfl (by rw[z3m]; rfl) (by rw[z4L]; rfl) rfl rfl ?_
  rw[Nat.zero_add,List.take_length,List.drop_zero]
  repeat (refine nst ?_)
  exact z5W [95] rfl (by trivial) ⟨rfl,⟨.inr rfl,.inr rfl,.inr rfl,.inl rfl⟩,rfl,rfl⟩ hb rfl
theorem zgr (acc:List Int) (n:Int) (hn0:0≤n∧n<4611686018427387904) (hl:acc.length≤1000):
  CtM Tryz.prog 231 [.c (.ptr 0 0),.c (.ptr 1 0),.c (.ptr 2 0)] [.cells [.own 3 1 0 acc.length],iB n,iB 8,.row (.ints .u8 acc)] (.tup [])
   [.cells [.own 4 1 0 (acc.length+1)],iB n,iB 8,.gone] [.row (.ints .u8 (acc++ [n%256]))]:=by
 have ha:IntKind.i64.wrap (BitVec.ofInt IntKind.i64.bits n&&& BitVec.ofInt IntKind.i64.bits (1*2^min (Int.toNat 8) IntKind.i64.bits -1)).toNat=n%256:=zdX 8 (by decide) n hn0
 refine z18 Tryz.func231 rfl rfl rfl rfl rfl (fun E hn hb=>?_)
 repeat (refine nst ?_)
 refine z2V 8 (by kernel_rfl) (by kernel_rfl) (by kernel_rfl) (by rw[hn]; rfl) rfl rfl ?_
 repeat (first | refine dp1 ?_ | refine dg1 ?_ | refine z1i ?_)
 rw[ha]
 refine z2x rfl (z1I (z7q (d:=(.ints .u8 [n%256])) rfl (z0n Tryz.underlying28 rfl rfl) z2S rfl (by exact vcs) rfl ⟨by decide,by decide,rfl,rfl⟩) rfl) ?_
 repeat (first | refine dp1 ?_ | refine dg1 ?_ | refine z1i ?_)
 repeat (refine nst ?_)
 refine z65 95 rfl rfl rfl rfl rfl (by rw[hn]; rfl) (z0n Tryz.underlying28 rfl rfl) rfl rfl rfl rfl ?_ (by simp) ⟨by simp; omega,by decide⟩ ?_ ?_
 ·trivial
 ·repeat (refine nst ?_)
  refine z0k rfl rfl rfl rfl rfl (by exact vcs) rfl rfl rfl (by rw[z3m]; rfl) (by rw[z4L]; rfl) rfl rfl ?_
  rw[Nat.zero_add,List.take_length]
  repeat (refine nst ?_)
  exact z5W [3] rfl (by trivial) ⟨rfl,⟨.inr rfl,.inr rfl,.inr rfl,.inl rfl⟩,rfl,rfl⟩ hb rfl
 ·repeat (refine nst ?_)
  refine z0k rfl rfl rfl rfl rfl (by exact vcs) rfl rfl rfl (by rw[z3m]; rfl) (by rw[z4L]; rfl) rfl rfl ?_
  rw[Nat.zero_add,List.take_length,List.drop_zero]
  repeat (refine nst ?_)
  exact z5W [95] rfl (by trivial) ⟨rfl,⟨.inr rfl,.inr rfl,.inr rfl,.inl rfl⟩,rfl,rfl⟩ hb rfl
end Go.Proofs.YtaagjnlkinojcaaGreat

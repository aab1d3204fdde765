/-
  Chapter 03: which of two sizes is less, the program's way. The conditions: rows of at most a million bytes.
-/
import Derived.Test.YtaagjnlkinojcaaGreatC7
import Derived.Test.YtaagjnlkinojcaaGreatC12
import Derived.Test.YtaagjnlkinojcaaGreatD15
import Derived.Test.YtaagjnlkinojcaaGreatC4
import Derived.Test.YtaagjnlkinojcaaGreatSxQ
import Derived.Test.YtaagjnlkinojcaaGreatSxX
namespace Go.Proofs.YtaagjnlkinojcaaGreat
set_option linter.unusedSimpArgs false
set_option linter.unusedVariables false
open Go.Sx
set_option maxRecDepth 10000
def stA (l:List Int) (i:Nat) (n:Int) (f:Bool) (o:List Int):List Int×Int:=
 if i<l.length then
  (if(nxA (l.drop i) i n f).2.1=0 then(if o.length=32 then([],2) else prA (l.length+1) l (nxA (l.drop i) i n f).2.2 (o++(if o.length=0 then z3I (nxA (l.drop i) i n f).1 else [(nxA (l.drop i) i n f).1]))) else([],(nxA (l.drop i) i n f).2.1))
 else(o,0)
theorem zej (l:List Int) (i:Nat) (o:List Int):stA l i 0 true o=prA (l.length+1) l i o:=by
 unfold stA
 by_cases h:i<l.length
 ·rw[if_pos h]
  conv=>rhs; unfold prA
  rw[if_pos h]
  dsimp only
  have hn:=(z5Y (l.drop i) i 0 true).2.2 (by rw[z27 l i h]; simp)
  split
  ·split
   ·rfl
   ·exact z7c l _ _ _ _ (by omega) (by omega)
  ·rfl
 ·rw[if_neg h]
  unfold prA
  rw[if_neg h]
set_option maxHeartbeats 8000000 in
theorem zfM (l:List Int) (hl:l.length≤16000000) (hw:WfB l):Ct Tryz.prog 188 [B8 l] [] (.tup [I64 (z2J l).1,lv (.int .i64 (z2J l).2)]) [] []:=by
 by_cases h0:l= []
 ·subst h0
  have e2:z2J []=([],6):=rfl
  rw[e2]
  refine z00 Tryz.func188 rfl rfl rfl rfl rfl (fun E hn hb=>?_)
  repeat refine nx ?_
  exact rtU []
 obtain⟨R,hR⟩:∃ R,z2J l=R:=⟨_,rfl⟩
 rw[hR]
 unfold z2J at hR
 rw[if_neg h0,←zej] at hR
 obtain⟨ro,re⟩:=R
 dsimp only
 refine z00 Tryz.func188 rfl rfl rfl rfl rfl (fun E hn hb=>?_)
 repeat refine nx ?_
 refine z10 4 900 1 (.ints .i64 []) rfl rfl (.inr (.inl ⟨_,rfl⟩)) ?_
 refine z09 (St.le_of (l:= [(0,B8 l),(4,.c (.own 900 1 0 ([]:List Int).length)),(5,lv (.int .i64 0)),(6,lv (.bool true)),(7,lv (.int .i64 ((0:Nat):Int)))]) (h:= [(900,.row (.ints .i64 []))]) (by refine⟨?_,?_⟩<;>(repeat' (first | exact trivial | exact rfl | refine⟨?_,?_⟩))<;>first | exact rfl |(simp; done) | skip)) ?_
 refine z0k (ι:= {s:Nat×Int×Bool×List Int//s.1≤l.length∧0≤s.2.1∧s.2.1≤2147483647∧(s.2.2.1=false→s.1<l.length)∧s.2.2.2.length≤32∧stA l s.1 s.2.1 s.2.2.1 s.2.2.2=(ro,re)}) (fun s=>St.of [(0,B8 l),(4,.c (.own 900 1 0 s.1.2.2.2.length)),(5,lv (.int .i64 s.1.2.1)),(6,lv (.bool s.1.2.2.1)),(7,lv (.int .i64 (s.1.1:Int)))] [(900,.row (.ints .i64 s.1.2.2.2))]) (fun s=>l.length -s.1.1) (fun s=>?_) ⟨(0,0,true,[]),Nat.zero_le _,by simp,by simp,by simp,by simp,hR⟩
 obtain⟨⟨i,n,f,o⟩,k1,k2,k3,k4,k5,k6⟩:=s
 dsimp only
 simp only at k1 k2 k3 k4 k5 k6
 by_cases hi:i<l.length
 ·unfold stA at k6
  rw[if_pos hi,z27 l i hi] at k6
  have hx:=z4F hw i
  unfold nxA at k6
  obtain⟨x,hx1⟩:∃ x,l.getD i 0=x:=⟨_,rfl⟩
  have hx2:l.getD (i:Int).toNat 0=x:=by rw[Int.toNat_natCast]; exact hx1
  rw[hx1] at k6 hx
  have hm:0≤x%128∧x%128<128:=by omega
  by_cases c1:f=true∧x=128
  ·rw[if_pos c1,if_neg (by simp)] at k6
   simp only[Prod.mk.injEq] at k6
   obtain⟨rfl,rfl⟩:=k6
   obtain⟨rfl,rfl⟩:=c1
   repeat (first | refine nx ?_ | rw[hx2])
   exact rtU []
  ·rw[if_neg c1] at k6
   have c1':f=true→¬ x=128:=fun h h'=>c1 ⟨h,h'⟩
   clear c1
   cases f
   case' false=>clear c1'
   case' true=>replace c1':=c1' rfl
   all_goals
    by_cases c2:2147483647<128*n+x%128
    ·rw[if_pos c2,if_neg (by simp)] at k6
     simp only[Prod.mk.injEq] at k6
     obtain⟨rfl,rfl⟩:=k6
     repeat (first | refine nx ?_ | rw[hx2])
     exact rtU []
    ·rw[if_neg c2] at k6
     by_cases c3:x<128
     ·rw[if_pos c3,if_pos (by rfl)] at k6
      by_cases h32:o.length=32
      ·rw[if_pos h32] at k6
       simp only[Prod.mk.injEq] at k6
       obtain⟨rfl,rfl⟩:=k6
       repeat (first | refine nx ?_ | rw[hx2])
       exact rtU []
      ·rw[if_neg h32,←zej] at k6
       by_cases ho:o.length=0
       ·rw[if_pos ho] at k6
        obtain rfl:=List.eq_nil_of_length_eq_zero ho
        unfold z3I at k6
        by_cases d1:128*n+x%128<80
        ·rw[if_pos d1] at k6
         by_cases d2:128*n+x%128<40
         ·rw[show(128*n+x%128)/40=0 by omega,show(128*n+x%128)%40=128*n+x%128 by omega] at k6
          repeat (first | refine nx ?_ | rw[hx2])
          refine z08 ⟨(i+1,0,true,[]++ [0,128*n+x%128]),by dsimp only; omega,by simp,by simp,by simp,by simp,k6⟩ (by dsimp only; omega) (St.le_of ⟨⟨rfl,rfl,rfl,rfl,rfl⟩,rfl⟩)
         ·rw[show(128*n+x%128)/40=1 by omega,show(128*n+x%128)%40=128*n+x%128 -40 by omega] at k6
          repeat (first | refine nx ?_ | rw[hx2])
          refine z08 ⟨(i+1,0,true,[]++ [1,128*n+x%128 -40]),by dsimp only; omega,by simp,by simp,by simp,by simp,k6⟩ (by dsimp only; omega) (St.le_of ⟨⟨rfl,rfl,rfl,rfl,rfl⟩,rfl⟩)
        ·rw[if_neg d1] at k6
         repeat (first | refine nx ?_ | rw[hx2])
         refine z08 ⟨(i+1,0,true,[]++ [2,128*n+x%128 -80]),by dsimp only; omega,by simp,by simp,by simp,by simp,k6⟩ (by dsimp only; omega) (St.le_of ⟨⟨rfl,rfl,rfl,rfl,rfl⟩,rfl⟩)
       ·rw[if_neg ho] at k6
        repeat (first | refine nx ?_ | rw[hx2])
        refine z08 ⟨(i+1,0,true,o++ [128*n+x%128]),by dsimp only; omega,by simp,by simp,by simp,by simp; omega,k6⟩ (by dsimp only; omega) (St.le_of ⟨⟨rfl,rfl,rfl,rfl,rfl⟩,rfl⟩)
     ·rw[if_neg c3] at k6
      by_cases hlast:i+1=l.length
      ·rw[hlast,List.drop_length] at k6
       rw[show nxA [] l.length (128*n+x%128) false=(0,6,l.length) from rfl,if_neg (by simp)] at k6
       simp only[Prod.mk.injEq] at k6
       obtain⟨rfl,rfl⟩:=k6
       repeat (first | refine nx ?_ | rw[hx2])
       exact rtU []
      ·have k7:stA l (i+1) (128*n+x%128) false o=(ro,re):=by
        unfold stA
        rw[if_pos (by omega)]
        exact k6
       repeat (first | refine nx ?_ | rw[hx2])
       refine z08 ⟨(i+1,128*n+x%128,false,o),by dsimp only; omega,by dsimp only; omega,by dsimp only; omega,by intro _; dsimp only; omega,by dsimp only; omega,k7⟩ (by dsimp only; omega) (St.le_of ⟨⟨rfl,rfl,rfl,rfl,rfl⟩,rfl⟩)
 ·unfold stA at k6
  rw[if_neg hi] at k6
  simp only[Prod.mk.injEq] at k6
  obtain⟨rfl,rfl⟩:=k6
  obtain rfl:i=l.length:=by omega
  repeat refine nx ?_
  refine z31 2 ?_
  exact rtU []
theorem z0s (t:z0h) (X:List Int):(z05 t X).length≤X.length+20:=by
 have h1:=z2g 128 5 t.2.1.toNat
 have h2:=z2g 256 5 X.length
 have hT5:(tgL t).length≤10:=by
  unfold tgL
  split
  ·simp
  ·simp[z8j]; omega
 have hL5:(z0I X.length).length≤10:=by
  generalize X.length=n at*
  unfold z0I
  split
  ·simp
  ·simp; omega
 simp only[z05,List.length_append]
 omega
theorem zek {a b:List Int} (ha:WfB a) (hb:WfB b):WfB (a++b):=fun x hx=>(List.mem_append.1 hx).elim (ha x) (hb x)
theorem zel (t:z0h) (X:List Int) (h:z0q t=true) (hw:WfB X):WfB (z05 t X):=by
 have hr:0≤t.1∧t.1≤3∧0≤t.2.1∧t.2.1<2097152:=by simp[z0q] at h; omega
 have hfm:=z67 h
 have hfi:0≤z1h t∧z1h t≤224:=by
  simp only[List.mem_cons,List.not_mem_nil,or_false] at hfm
  omega
 have hD:=z8i 128 (by decide) 5 t.2.1.toNat
 have h2:=z2g 256 5 X.length
 have hL:=zag 256 (by decide) (by decide) 5 X.length
 refine zek (zek ?_ ?_) hw
 ·unfold tgL
  split
  ·intro x hx
   rw[List.mem_singleton.1 hx]
   omega
  ·intro x hx
   cases hx with
   | head=>omega
   | tail _ hx=>
     unfold hiL at hx
     rcases List.mem_append.1 hx with hx | hx
     ·obtain⟨y,hy,rfl⟩:=List.mem_map.1 hx
      have:=hD y (List.mem_reverse.1 (List.mem_of_mem_take hy))
      omega
     ·have:=hD x (List.mem_reverse.1 (List.mem_of_mem_drop hx))
      omega
 ·unfold z0I
  split
  ·intro x hx
   rw[List.mem_singleton.1 hx]
   omega
  ·intro x hx
   cases hx with
   | head=>omega
   | tail _ hx=>exact hL x (List.mem_reverse.1 hx)
def z13 (l:List Int) (p:Nat):List Int×z0h×List Int×Int×Nat:=
 if ¬ (z0d l p).2.2=0 then([],(z0d l p).1.1,[],(z0d l p).2.2,p)
 else if(l.length:Int) -(z0d l p).2.1<(z0d l p).1.2 then([],(z0d l p).1.1,[],3,p)
 else((l.drop p).take ((z0d l p).2.1 -p+(z0d l p).1.2.toNat),(z0d l p).1.1,(l.drop (z0d l p).2.1).take (z0d l p).1.2.toNat,0,(z0d l p).2.1+(z0d l p).1.2.toNat)
set_option maxHeartbeats 4000000 in
theorem zha (l:List Int) (p:Nat) (hp:p≤l.length) (hl:l.length≤16000000) (hw:WfB l):
  Ct Tryz.prog 186 [.c (.ptr 0 0)] [z04 l p] (.tup [B8 (z13 l p).1,z2c (z13 l p).2.1,B8 (z13 l p).2.2.1,lv (.int .i64 (z13 l p).2.2.2.1)]) [z04 l (z13 l p).2.2.2.2] []:=by
 have hr:=z5g l p hp hl hw
 have hle:=z1k l p hp
 have hpos:=z2B l p hw
 have hst:¬ (z0d l p).2.2=0→(z0d l p).2.1=p:=z72 _ _ _
 have hat:=z1z l p
 generalize hRR:z13 l p=R
 unfold z13 at hRR
 generalize z0d l p=F at*
 obtain⟨⟨⟨t1,t2,t3⟩,n⟩,q,e⟩:=F
 dsimp only at*
 by_cases he:e=0
 ·subst he
  rw[if_neg (by simp)] at hRR
  obtain⟨N,rfl⟩:∃ N:Nat,n=N:=⟨n.toNat,by omega⟩
  rw[Int.toNat_natCast] at hRR
  have hat2:=z1z l q
  have hlf:=z0S l q hle.2 (by omega)
  have hbk:=z1L l q p hle.1 (by omega)
  by_cases hN:(l.length:Int) -q<N
  ·rw[if_pos hN] at hRR
   subst hRR
   refine z00 Tryz.func186 rfl rfl rfl rfl rfl (fun E hn hb=>?_)
   repeat refine nx ?_
   exact rtU []
  ·rw[if_neg hN] at hRR
   subst hRR
   have htk:=z6A l p (q -p+N) (by omega) hl
   rw[show((q -p+N:Nat):Int)=((q:Int) -(p:Int))+(N:Int) by omega,show p+(q -p+N)=q+N by omega] at htk
   have hcut:(((l.drop p).take (q -p+N)).take (((l.drop p).take (q -p+N)).length:Int).toNat).drop ((q:Int) -(p:Int)).toNat=(l.drop q).take N:=by
    rw[Int.toNat_natCast,List.take_length,show((q:Int) -(p:Int)).toNat=q -p by omega,List.drop_take,List.drop_drop]
    congr 1
    ·omega
    ·congr 1; omega
   dsimp only
   rw[←hcut]
   refine z00 Tryz.func186 rfl rfl rfl rfl rfl (fun E hn hb=>?_)
   repeat refine nx ?_
   exact rtU []
 ·rw[if_pos he] at hRR
  obtain rfl:=hst he
  subst hRR
  refine z00 Tryz.func186 rfl rfl rfl rfl rfl (fun E hn hb=>?_)
  repeat refine nx ?_
  exact rtU []
theorem zhb (l:List Int) (p:Nat) (hp:p≤l.length) (hw:WfB l):p≤(z13 l p).2.2.2.2∧(z13 l p).2.2.2.2≤l.length∧(z13 l p).1.length≤l.length∧(z13 l p).2.2.1.length≤l.length:=by
 have hle:=z1k l p hp
 have hpos:=z2B l p hw
 unfold z13
 split
 ·exact⟨Nat.le_refl _,hp,Nat.zero_le _,Nat.zero_le _⟩
 ·split
  ·exact⟨Nat.le_refl _,hp,Nat.zero_le _,Nat.zero_le _⟩
  ·dsimp only
   refine⟨by omega,by omega,?_,?_⟩<;>simp<;>omega
theorem zhc (n:Int) (b:Bool):Ct Tryz.prog 111 [lv (.int .i64 n),lv (.bool b)] [] (z2c (2,n,b)) [] []:=by
 refine z00 Tryz.func111 rfl rfl rfl rfl rfl (fun E hn hb=>?_)
 repeat refine nx ?_
 exact rt1 []
theorem z4p (n:Int) (b:Bool):Ct Tryz.prog 101 [lv (.int .i64 n),lv (.bool b)] [] (z2c (2,n,b)) [] []:=by
 refine z00 Tryz.func101 rfl rfl rfl rfl rfl (fun E hn hb=>?_)
 repeat refine nx ?_
 exact rt1 []
theorem zfN (t:z0h) (h:z0q t=false):Ct Tryz.prog 191 [z2c t] [] (.tup [B8 [],lv (.int .i64 1)]) [] []:=by
 have hr:=z82 t
 rw[h] at hr
 refine z00 Tryz.func191 rfl rfl rfl rfl rfl (fun E hn hb=>?_)
 repeat refine nx ?_
 exact rtU []
theorem zjc (t:z0h) (bs:List (List Int)) (h:z0q t=false):Ct Tryz.prog 158 [z2c t,z2M bs] [] (.tup [B8 [],lv (.int .i64 1)]) [] []:=by
 have hr:=zfN t h
 refine z00 Tryz.func158 rfl rfl rfl rfl rfl (fun E hn hb=>?_)
 repeat refine nx ?_
 exact rtU []
def z4c (t:z0h) (b:List Int):List Int×Int:=if z0q t=true then(z05 t b,0) else([],1)
theorem z7i (t:z0h) (bs:List (List Int)) (hbl:bs.length≤12000000) (hl:bs.flatten.length≤16000000):
  Ct Tryz.prog 158 [z2c t,z2M bs] [] (.tup [B8 (z4c t bs.flatten).1,lv (.int .i64 (z4c t bs.flatten).2)]) [] []:=by
 unfold z4c
 cases h:z0q t with
 | true=>rw[if_pos rfl]; exact z6N t bs h hbl hl
 | false=>rw[if_neg (by simp)]; exact zjc t bs h
theorem zdP (bs:List (List Int)) (hbl:bs.length≤12000000) (hl:bs.flatten.length≤16000000):Ct Tryz.prog 224 [z2M bs] [] (.tup [B8 (z05 (ofT 16) bs.flatten),lv (.int .i64 0)]) [] []:=by
 have h1:=z1d 16
 have h2:=z6N (ofT 16) bs (by decide) hbl hl
 refine z00 Tryz.func224 rfl rfl rfl rfl rfl (fun E hn hb=>?_)
 repeat refine nx ?_
 exact rt1 []
def z8F (n:Int) (l:List Int):List Int×Int:=
 if ¬ (z13 l 0).2.2.2.1=0 then([],(z13 l 0).2.2.2.1)
 else if(z13 l 0).2.2.2.2<l.length then([],7) else z4c (2,n,(z13 l 0).2.1.2.2) (z13 l 0).2.2.1
set_option maxHeartbeats 4000000 in
theorem zdQ (n:Int) (l:List Int) (hl:l.length≤12000000) (hw:WfB l):Ct Tryz.prog 143 [lv (.int .i64 n),B8 l] [] (.tup [B8 (z8F n l).1,lv (.int .i64 (z8F n l).2)]) [] []:=by
 have h0:=z2l l (by omega)
 have h1:=zha l 0 (by omega) (by omega) hw
 have h2:=zhb l 0 (by omega) hw
 unfold z8F
 generalize z13 l 0=O at*
 obtain⟨a,⟨t1,t2,t3⟩,c,e,q⟩:=O
 dsimp only at*
 have h3:=z0S l q h2.2.1 (by omega)
 have h4:=zhc n t3
 have h5:=z7i (2,n,t3) [c] (by simp) (by simp; omega)
 rw[show [c].flatten=c by simp] at h5
 by_cases he:e=0
 ·subst he
  rw[if_neg (by simp)]
  by_cases hq:q<l.length
  ·rw[if_pos hq]
   refine z00 Tryz.func143 rfl rfl rfl rfl rfl (fun E hn hb=>?_)
   repeat refine nx ?_
   exact rtU []
  ·rw[if_neg hq]
   refine z00 Tryz.func143 rfl rfl rfl rfl rfl (fun E hn hb=>?_)
   repeat refine nx ?_
   exact rt1 []
 ·rw[if_pos he]
  refine z00 Tryz.func143 rfl rfl rfl rfl rfl (fun E hn hb=>?_)
  repeat refine nx ?_
  exact rtU []
def z11 (l:List Int):Nat→Nat→List (List Int)→List (List Int)×Int
 | 0,_,acc=>(acc,0)
 | n+1,p,acc=>if l.length≤p then(acc,0) else if ¬ (z13 l p).2.2.2.1=0 then([],(z13 l p).2.2.2.1) else z11 l n (z13 l p).2.2.2.2 (acc++ [(z13 l p).1])
def z12 (l:List Int) (p:Nat):List (List Int)×Int:=z11 l (l.length+1) p []
abbrev z2a (rs:List (List Int)):List (List Leaf):=rs.map fun b=> [.ints .u8 b]
theorem z86 (b:List Int) (p:Nat) (h:(z0d b p).2.2=0):p<(z0d b p).2.1:=by
 unfold z0d z0U at h ⊢
 split at h
 ·rename_i h0
  rw[if_pos h0]
  unfold z36 at h h0 ⊢
  split at h0
  ·rename_i ht
   rw[if_pos ht] at h ⊢
   dsimp only at h0 ⊢
   have h1:p<(z0P b p).2.1:=by
    unfold z0P z0U at ht ⊢
    split at ht
    ·rename_i h2
     rw[if_pos h2]
     unfold z35 at h2 ⊢
     split
     ·rename_i h3
      rw[if_pos h3] at h2
      split
      ·have:=(zaA b 3 (p+1) 0 (by omega)).1
       dsimp only
       omega
      ·dsimp only; omega
     ·rename_i h3
      rw[if_neg h3] at h2
      simp at h2
    ·rename_i h2
     exact absurd ht h2
   have h2:(z0P b p).2.1≤(lenP b (z0P b p).2.1).2.1:=by
    by_cases hb:p<b.length
    ·exact(zeA b _ (z8I b p (by omega)).2).1
    ·unfold z0P z0U z35 at ht
     rw[if_neg hb] at ht
     simp at ht
   omega
  ·rename_i ht
   exact absurd h0 ht
 ·rename_i h0
  exact absurd h h0
theorem zem (l:List Int) (p:Nat) (hp:p<l.length) (hw:WfB l) (h:(z13 l p).2.2.2.1=0):p<(z13 l p).2.2.2.2∧(z13 l p).2.2.2.2≤l.length∧(z13 l p).1=(l.drop p).take ((z13 l p).2.2.2.2 -p):=by
 have hle:=z1k l p (by omega)
 have hpos:=z2B l p hw
 have hadv:=z86 l p
 unfold z13 at*
 split at h
 ·rename_i h'; exact absurd h h'
 ·rename_i h1
  split at h
  ·simp at h
  ·rename_i h2
   rw[if_neg h1,if_neg h2]
   dsimp only
   have:=hadv (by simpa using h1)
   refine⟨by omega,by omega,?_⟩
   congr 1
   omega
theorem z87 (l:List Int) (n p:Nat) (acc:List (List Int)) (hp:p<l.length) (he:(z13 l p).2.2.2.1=0):z11 l (n+1) p acc=z11 l n (z13 l p).2.2.2.2 (acc++ [(z13 l p).1]):=by
 rw[z11,if_neg (by omega),if_neg (by simpa using he)]
set_option maxHeartbeats 4000000 in
theorem zbi (l:List Int) (p:Nat) (hp:p≤l.length) (hl:l.length≤12000000) (hw:WfB l):
  Ct Tryz.prog 187 [.c (.ptr 0 0)] [z04 l p] (.tup [.c (.lf (.recs 1 (z2a (z12 l p).1))),lv (.int .i64 (z12 l p).2)]) [z04 l (if(z12 l p).2=0 then l.length else p)] []:=by
 have hat:=z1z l p
 refine z00 Tryz.func187 rfl rfl rfl rfl rfl (fun E hn hb=>?_)
 repeat refine nx ?_
 refine z10 5 900 1 (.recs 1 []) rfl rfl (.inr (.inr ⟨_,rfl⟩)) ?_
 refine z09 (St.le_of (l:= [(0,.c (.ptr 0 0)),(4,lv (.int .i64 (p:Int))),(5,.c (.own 900 1 0 (z2a []).length))]) (h:= [(0,z04 l p),(900,.row (.recs 1 (z2a [])))]) (by refine⟨?_,?_⟩<;>(repeat' (first | exact trivial | exact rfl | refine⟨?_,?_⟩))<;>first | exact rfl |(simp; done) | skip)) ?_
 refine z0k (ι:= {x:Nat×Nat×List (List Int)//p≤x.2.1∧x.2.1≤l.length∧l.length -x.2.1<x.1∧x.2.2.length≤x.2.1∧z11 l x.1 x.2.1 x.2.2=z12 l p}) (fun i=>St.of [(0,.c (.ptr 0 0)),(4,lv (.int .i64 (p:Int))),(5,.c (.own 900 1 0 (z2a i.1.2.2).length))] [(0,z04 l i.1.2.1),(900,.row (.recs 1 (z2a i.1.2.2)))]) (fun i=>l.length -i.1.2.1) (fun i=>?_) ⟨(l.length+1,p,[]),Nat.le_refl _,hp,by dsimp only; omega,Nat.zero_le _,rfl⟩
 obtain⟨⟨n,q,acc⟩,h0,h1,h2,h3,h4⟩:=i
 change p≤q at h0
 change q≤l.length at h1
 change l.length -q<n at h2
 change acc.length≤q at h3
 change z11 l n q acc=z12 l p at h4
 dsimp only
 have hlf:=z0S l q h1 (by omega)
 obtain⟨n,rfl⟩:∃ m,n=m+1:=⟨n -1,by omega⟩
 by_cases hq:q<l.length
 ·have ho:=zha l q h1 (by omega) hw
  have hf:=zem l q hq hw
  have hle:=zhb l q h1 hw
  have hst:=z87 l n q acc hq
  have her:¬ (z13 l q).2.2.2.1=0→z11 l (n+1) q acc=([],(z13 l q).2.2.2.1):=fun h=>by rw[z11,if_neg (by omega),if_pos h]
  generalize z13 l q=O at*
  obtain⟨a,⟨t1,t2,t3⟩,c,e,r⟩:=O
  dsimp only at*
  by_cases he:e=0
  ·subst he
   have hf:=hf rfl
   have hrec:z2a (acc++ [a])=z2a acc++ [[.ints .u8 a]]:=by simp[z2a]
   rw[hst rfl] at h4
   repeat refine nx ?_
   refine z08 ⟨(n,r,acc++ [a]),by dsimp only; omega,by dsimp only; omega,by dsimp only; omega,by dsimp only; simp; omega,h4⟩ (by dsimp only; omega) (St.le_of ⟨⟨rfl,rfl,?_⟩,⟨rfl,?_⟩⟩)
   ·dsimp only; rw[hrec]; rfl
   ·dsimp only; rw[hrec]; rfl
  ·have her:=her he
   rw[h4] at her
   rw[her]
   have hbk:=z1L l r p (by omega) (by omega)
   dsimp only
   rw[if_neg he]
   repeat refine nx ?_
   exact rtU []
 ·have hw0:z12 l p=(acc,0):=by rw[←h4,z11,if_pos (by omega)]
  rw[hw0]
  obtain rfl:q=l.length:=by omega
  dsimp only
  rw[if_pos rfl]
  repeat refine nx ?_
  refine z31 2 ?_
  exact rtU []
def z1r:List Int→List Int→Nat
 | x::a,y::b=>if x=y then z1r a b+1 else 0
 | _,_=>0
theorem zen:∀ a b:List Int,z1r a b≤a.length∧z1r a b≤b.length
 | [],b=>by cases b<;>simp[z1r]
 | x::a,[]=>by simp[z1r]
 | x::a,y::b=>by
   have:=zen a b
   simp only[z1r]
   split<;>simp<;>omega
theorem zbj:∀(a b:List Int) (i:Nat),(∀ k,k<i→a.getD k 0=b.getD k 0)→i<a.length→i<b.length→a.getD i 0≠b.getD i 0→z1r a b=i
 | [],b,i,_,h,_,_=>by simp at h
 | x::a,[],i,_,_,h,_=>by simp at h
 | x::a,y::b,0,_,_,_,h=>by simp at h; simp[z1r,h]
 | x::a,y::b,i+1,h,h1,h2,h3=>by
   have h0:x=y:=by simpa using h 0 (by omega)
   have:=zbj a b i (fun k hk=>by simpa using h (k+1) (by omega)) (by simpa using h1) (by simpa using h2) (by simpa using h3)
   simp only[z1r,h0,if_true,this]
theorem zcW:∀(a b:List Int),(∀ k,k<min a.length b.length→a.getD k 0=b.getD k 0)→z1r a b=min a.length b.length
 | [],b,_=>by cases b<;>simp[z1r]
 | x::a,[],_=>by simp[z1r]
 | x::a,y::b,h=>by
   have h0:x=y:=by simpa using h 0 (by simp)
   have:=zcW a b (fun k hk=>by simpa using h (k+1) (by simp; omega))
   simp only[z1r,h0,if_true,this]
   simp
theorem zcX:∀(a b:List Int),z0z a b=(if z1r a b<a.length∧z1r a b<b.length then(if a.getD (z1r a b) 0<b.getD (z1r a b) 0 then -1 else 1) else if z1r a b<b.length then -1 else if z1r a b<a.length then 1 else 0)
 | [],[]=>rfl
 | [],y::b=>by simp[z0z,z1r]
 | x::a,[]=>by simp[z0z,z1r]
 | x::a,y::b=>by
   have ih:=zcX a b
   by_cases h:x=y
   ·subst h
    simp only[z0z,Int.lt_irrefl,if_false,z1r,if_true,ih,List.length_cons,Nat.add_lt_add_iff_right,List.getD_cons_succ]
   ·simp only[z0z,z1r,h,if_false,List.length_cons,Nat.zero_lt_succ,and_self,if_true,List.getD_cons_zero]
    by_cases h1:x<y
    ·simp[h1]
    ·have:y<x:=by omega
     simp[h1,this]
theorem zbk (a b:List Int) (ha:a.length≤16000000) (hb':b.length≤16000000):Ct Tryz.prog 155 [B8 a,B8 b] [] (lv (.int .i64 (z1r a b))) [] []:=by
 refine z00 Tryz.func155 rfl rfl rfl rfl rfl (fun E hn hb=>?_)
 repeat (refine nst ?_)
 have hN:min (a.length:Int) b.length=((min a.length b.length:Nat):Int):=by omega
 rw[hN]
 generalize hn0:min a.length b.length=n at*
 refine z09 (St.le_of (l:= [(0,B8 a),(1,B8 b),(5,lv (.int .i64 (n:Int))),(12,lv (.int .i64 (n:Int))),(13,lv (.int .i64 0))]) (h:= []) (by refine⟨?_,?_⟩<;>(repeat' (first | exact trivial | exact rfl | refine⟨?_,?_⟩))<;>first | exact rfl |(simp; done) | skip)) ?_
 refine z0k (ι:= {i:Nat//i≤n∧∀ k,k<i→a.getD k 0=b.getD k 0}) (fun i=>St.of [(0,B8 a),(1,B8 b),(5,lv (.int .i64 (n:Int))),(12,lv (.int .i64 (n:Int))),(13,lv (.int .i64 (i.1:Int)))] []) (fun i=>n -i.1) (fun i=>?_) ⟨0,by omega,fun k hk=>by omega⟩
 obtain⟨i,hi,he⟩:=i
 dsimp only
 repeat (refine nst ?_)
 refine z06 rfl (by simp) (fun hc=>?_) (fun hc=>?_)
 ·have hin:i<n:=by simp at hc; omega
  repeat (refine nst ?_)
  refine z2V 9 (by kernel_rfl) (by kernel_rfl) (by kernel_rfl) (by rw[hn]; rfl) rfl rfl ?_
  repeat (first | refine dp1 ?_ | refine dg1 ?_ | refine z1i ?_)
  repeat (refine nst ?_)
  refine z06 rfl (by simp) (fun hq=>?_) (fun hq=>?_)
  ·have hne:a.getD i 0≠b.getD i 0:=by simpa using hq
   rw[zbj a b i he (by omega) (by omega) hne]
   repeat (refine nst ?_)
   exact rt1 []
  ·have hne:a.getD i 0=b.getD i 0:=by simpa using hq
   repeat (refine nst ?_)
   refine z08 ⟨i+1,by omega,fun k hk=>?_⟩ (by dsimp only; omega) (St.le_of ⟨⟨rfl,rfl,rfl,rfl,rfl⟩,trivial⟩)
   rcases Nat.lt_or_ge k i with h | h
   ·exact he k h
   ·have:k=i:=by omega
    subst this; exact hne
 ·have:i=n:=by simp at hc; omega
  subst this
  rw[zcW a b (by rw[hn0]; exact he),hn0]
  repeat (refine nst ?_)
  exact rt1 []
theorem z6l (a b:List Int) (ha:a.length≤16000000) (hb':b.length≤16000000):Ct Tryz.prog 208 [B8 a,B8 b] [] (lv (.int .i64 (z0z a b))) [] []:=by
 have hpc:=zcX a b
 obtain⟨hp1,hp2⟩:=zen a b
 generalize z0z a b=r at*
 refine z00 Tryz.func208 rfl rfl rfl rfl rfl (fun E hn hb=>?_)
 repeat (refine nst ?_)
 refine z1C (zbk a b ha hb') rfl rfl rfl (by rw[hn]; rfl) rfl rfl (by exact vcs) rfl rfl rfl ?_
 repeat (refine nst ?_)
 generalize z1r a b=n at*
 refine z06 rfl (by simp) (fun hq=>?_) (fun hq=>?_)
 ·have h1:n<a.length∧n<b.length:=by simpa[Bool.cond_eq_ite] using hq
  rw[if_pos h1] at hpc
  obtain⟨h1a,h1b⟩:=h1
  repeat (refine nst ?_)
  refine z2V 9 (by kernel_rfl) (by kernel_rfl) (by kernel_rfl) (by rw[hn]; rfl) rfl rfl ?_
  repeat (first | refine dp1 ?_ | refine dg1 ?_ | refine z1i ?_)
  repeat (refine nst ?_)
  refine z06 rfl (by simp) (fun hr=>?_) (fun hr=>?_)
  ·have h2:a.getD n 0<b.getD n 0:=by simpa using hr
   rw[if_pos h2] at hpc
   subst hpc
   repeat (refine nst ?_)
   exact rt1 []
  ·have h2:¬ a.getD n 0<b.getD n 0:=by simpa using hr
   rw[if_neg h2] at hpc
   subst hpc
   repeat (refine nst ?_)
   exact rt1 []
 ·have h1:¬ (n<a.length∧n<b.length):=by
   simp[Bool.cond_eq_ite] at hq
   omega
  rw[if_neg h1] at hpc
  repeat (refine nst ?_)
  refine z06 rfl (by simp) (fun hr=>?_) (fun hr=>?_)
  ·have h2:n<b.length:=by simpa using hr
   rw[if_pos h2] at hpc
   subst hpc
   repeat (refine nst ?_)
   exact rt1 []
  ·have h2:¬ n<b.length:=by simp at hr; omega
   rw[if_neg h2] at hpc
   repeat (refine nst ?_)
   refine z06 rfl (by simp) (fun hu=>?_) (fun hu=>?_)
   ·have h3:n<a.length:=by simpa using hu
    rw[if_pos h3] at hpc
    subst hpc
    repeat (refine nst ?_)
    exact rt1 []
   ·have h3:¬ n<a.length:=by simp at hu; omega
    rw[if_neg h3] at hpc
    subst hpc
    repeat (refine nst ?_)
    exact rt1 []
end Go.Proofs.YtaagjnlkinojcaaGreat

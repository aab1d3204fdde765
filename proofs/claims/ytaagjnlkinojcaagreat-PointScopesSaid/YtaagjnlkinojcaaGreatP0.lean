/-
  Chapter 16: what reads the chapter's parts, of the chapter's examples. The conditions: rows of at most a million bytes.
-/
import Derived.Test.YtaagjnlkinojcaaGreatQ16
import Derived.Test.YtaagjnlkinojcaaGreatQ3
import Derived.Test.YtaagjnlkinojcaaGreatE7
import Derived.Test.YtaagjnlkinojcaaGreatC8
namespace Go.Proofs.YtaagjnlkinojcaaGreat
set_option linter.unusedSimpArgs false
set_option linter.unusedVariables false
open Go.Sx
set_option maxRecDepth 10000
def z34 (l:List Int):List Int:=l.flatMap fun x=>btk x 8
theorem z9p (l:List Int):(z34 l).length=8*l.length:=by
 induction l with
 | nil=>rfl
 | cons x l ih=>
   have:z34 (x::l)=btk x 8++z34 l:=rfl
   rw[this,List.length_append,ih]
   simp
   omega
theorem zl8:∀ j:Fin 8,∀ x:Int,(btk x 8).getD j.val 0=x/2^(7 -j.val)%2:=by
 intro j x
 match j with
 |⟨0,_⟩=>rfl
 |⟨1,_⟩=>rfl
 |⟨2,_⟩=>rfl
 |⟨3,_⟩=>rfl
 |⟨4,_⟩=>rfl
 |⟨5,_⟩=>rfl
 |⟨6,_⟩=>rfl
 |⟨7,_⟩=>rfl
theorem zdg:∀(l:List Int) (i:Nat),i<8*l.length→(z34 l).getD i 0=l.getD (i/8) 0/2^(7 -i%8)%2
 | [],i,h=>by simp at h
 | x::l,i,h=>by
   have e:z34 (x::l)=btk x 8++z34 l:=rfl
   rw[e]
   by_cases h8:i<8
   ·have h1:=zl8 ⟨i,h8⟩ x
    rw[List.getD_eq_getElem?_getD,List.getElem?_append_left (by simpa using h8),←List.getD_eq_getElem?_getD,h1]
    rw[show i/8=0 by omega,show i%8=i by omega]
    rfl
   ·have ih:=zdg l (i -8) (by simp at h; omega)
    rw[List.getD_eq_getElem?_getD,List.getElem?_append_right (by simp; omega),←List.getD_eq_getElem?_getD]
    rw[show i -(btk x 8).length=i -8 by simp,ih,show(i -8)/8=i/8 -1 by omega,show(i -8)%8=i%8 by omega]
    obtain⟨q,hq⟩:∃ q,i/8=q+1:=⟨i/8 -1,by omega⟩
    rw[hq]
    simp
theorem zhs {l:List Int} {i:Nat} (h:i<l.length):z34 (l.take (i+1))=z34 (l.take i)++btk (l.getD i 0) 8:=by
 rw[z9c (d:=0) h]
 unfold z34
 rw[List.flatMap_append]
 simp
set_option maxHeartbeats 16000000 in
theorem zl9 (l:List Int) (hl:l.length≤12000000) (hw:WfB l):Ct Tryz.prog 197 [B8 l] [] (I64 (z34 l)) [] []:=by
 refine z00 Tryz.func197 rfl rfl rfl rfl rfl (fun E hn hb=>?_)
 repeat refine nx ?_
 refine z0N 3 900 1 (.ints .i64 []) rfl rfl (.inr (.inl ⟨_,rfl⟩)) ?_
 refine z09 (St.le_of (l:= [(0,B8 l),(3,.c (.own 900 1 0 (z34 (l.take 0)).length)),(4,lv (.int .i64 ((0:Nat):Int)))]) (h:= [(900,.row (.ints .i64 (z34 (l.take 0))))]) (by refine⟨?_,?_⟩<;>(repeat' (first | exact trivial | exact rfl | refine⟨?_,?_⟩))<;>first | exact rfl |(simp; done) | skip)) ?_
 refine z0h (ι:= {i:Nat//i≤l.length}) (fun i=>St.of [(0,B8 l),(3,.c (.own 900 1 0 (z34 (l.take i.1)).length)),(4,lv (.int .i64 (i.1:Int)))] [(900,.row (.ints .i64 (z34 (l.take i.1))))]) (fun i=>l.length -i.1) (fun i=>?_) ⟨0,Nat.zero_le _⟩
 obtain⟨i,hi⟩:=i
 dsimp only
 by_cases hi2:i<l.length
 ·have hq:l.getD (i:Int).toNat 0=l.getD i 0:=rfl
  have hnx:=zhs hi2
  have hal:=z9p (l.take i)
  have hx:=za4 hw i
  have hle:(z34 (l.take i)).length≤96000000:=by rw[hal]; simp; omega
  generalize z34 (l.take i)=A at*
  generalize hX:l.getD i 0=x at*
  repeat (first | refine nx ?_ | rw[hq])
  rw[←List.append_nil A]
  refine z09 (St.le_of (l:= [(0,B8 l),(3,.c (.own 900 1 0 (A++btk x 0).length)),(4,lv (.int .i64 (i:Int))),(5,lv (.int .i64 x)),(6,lv (.int .i64 (kvB 0)))]) (h:= [(900,.row (.ints .i64 (A++btk x 0)))]) (by refine⟨?_,?_⟩<;>(repeat' (first | exact trivial | exact rfl | refine⟨?_,?_⟩))<;>first | exact rfl |(simp; done) | skip)) ?_
  refine z0h (ι:= {j:Nat//j≤8}) (fun j=>St.of [(0,B8 l),(3,.c (.own 900 1 0 (A++btk x j.1).length)),(4,lv (.int .i64 (i:Int))),(5,lv (.int .i64 x)),(6,lv (.int .i64 (kvB j.1)))] [(900,.row (.ints .i64 (A++btk x j.1)))]) (fun j=>8 -j.1) (fun j=>?_) ⟨0,by omega⟩
  obtain⟨j,hj⟩:=j
  dsimp only
  by_cases h8:j=8
  ·subst h8
   rw[←hnx]
   repeat refine nx ?_
   refine z07 ⟨i+1,hi2⟩ (by dsimp only; omega) (St.le_of ⟨⟨rfl,rfl,rfl⟩,rfl⟩)
  ·have:j=0∨j=1∨j=2∨j=3∨j=4∨j=5∨j=6∨j=7:=by omega
   rcases this with rfl | rfl | rfl | rfl | rfl | rfl | rfl | rfl
   ·repeat refine nx ?_
    refine z07 ⟨1,by omega⟩ (by dsimp only; omega) (St.le_of ⟨⟨rfl,?_,rfl,rfl,rfl⟩,?_⟩)
    ·dsimp only; rw[show A++btk x 1=(A++btk x 0)++ [x/128%2] by rw[List.append_assoc]; rfl]; rfl
    ·dsimp only; rw[show A++btk x 1=(A++btk x 0)++ [x/128%2] by rw[List.append_assoc]; rfl]; rfl
   ·repeat refine nx ?_
    refine z07 ⟨2,by omega⟩ (by dsimp only; omega) (St.le_of ⟨⟨rfl,?_,rfl,rfl,rfl⟩,?_⟩)
    ·dsimp only; rw[show A++btk x 2=(A++btk x 1)++ [x/64%2] by rw[List.append_assoc]; rfl]; rfl
    ·dsimp only; rw[show A++btk x 2=(A++btk x 1)++ [x/64%2] by rw[List.append_assoc]; rfl]; rfl
   ·repeat refine nx ?_
    refine z07 ⟨3,by omega⟩ (by dsimp only; omega) (St.le_of ⟨⟨rfl,?_,rfl,rfl,rfl⟩,?_⟩)
    ·dsimp only; rw[show A++btk x 3=(A++btk x 2)++ [x/32%2] by rw[List.append_assoc]; rfl]; rfl
    ·dsimp only; rw[show A++btk x 3=(A++btk x 2)++ [x/32%2] by rw[List.append_assoc]; rfl]; rfl
   ·repeat refine nx ?_
    refine z07 ⟨4,by omega⟩ (by dsimp only; omega) (St.le_of ⟨⟨rfl,?_,rfl,rfl,rfl⟩,?_⟩)
    ·dsimp only; rw[show A++btk x 4=(A++btk x 3)++ [x/16%2] by rw[List.append_assoc]; rfl]; rfl
    ·dsimp only; rw[show A++btk x 4=(A++btk x 3)++ [x/16%2] by rw[List.append_assoc]; rfl]; rfl
   ·repeat refine nx ?_
    refine z07 ⟨5,by omega⟩ (by dsimp only; omega) (St.le_of ⟨⟨rfl,?_,rfl,rfl,rfl⟩,?_⟩)
    ·dsimp only; rw[show A++btk x 5=(A++btk x 4)++ [x/8%2] by rw[List.append_assoc]; rfl]; rfl
    ·dsimp only; rw[show A++btk x 5=(A++btk x 4)++ [x/8%2] by rw[List.append_assoc]; rfl]; rfl
   ·repeat refine nx ?_
    refine z07 ⟨6,by omega⟩ (by dsimp only; omega) (St.le_of ⟨⟨rfl,?_,rfl,rfl,rfl⟩,?_⟩)
    ·dsimp only; rw[show A++btk x 6=(A++btk x 5)++ [x/4%2] by rw[List.append_assoc]; rfl]; rfl
    ·dsimp only; rw[show A++btk x 6=(A++btk x 5)++ [x/4%2] by rw[List.append_assoc]; rfl]; rfl
   ·repeat refine nx ?_
    refine z07 ⟨7,by omega⟩ (by dsimp only; omega) (St.le_of ⟨⟨rfl,?_,rfl,rfl,rfl⟩,?_⟩)
    ·dsimp only; rw[show A++btk x 7=(A++btk x 6)++ [x/2%2] by rw[List.append_assoc]; rfl]; rfl
    ·dsimp only; rw[show A++btk x 7=(A++btk x 6)++ [x/2%2] by rw[List.append_assoc]; rfl]; rfl
   ·repeat refine nx ?_
    refine z07 ⟨8,by omega⟩ (by dsimp only; omega) (St.le_of ⟨⟨rfl,?_,rfl,rfl,rfl⟩,?_⟩)
    ·dsimp only; rw[show A++btk x 8=(A++btk x 7)++ [x/1%2] by rw[List.append_assoc]; rfl]; rfl
    ·dsimp only; rw[show A++btk x 8=(A++btk x 7)++ [x/1%2] by rw[List.append_assoc]; rfl]; rfl
 ·obtain rfl:i=l.length:=by omega
  rw[List.take_length]
  repeat refine nx ?_
  refine z2d 2 ?_
  exact rt1 []
theorem zjs (u:Int) (l:List Int) (hl:l.length≤12000000) (hw:WfB l) (hr:z0P u l=true):Ct Tryz.prog 170 [z3t u l] [] (I64 ((z34 l).take (8*l.length -u.toNat))) [] []:=by
 have ha:=zl9 l hl hw
 have hal:=z9p l
 obtain⟨hu,hk⟩:=z83 hr
 generalize z34 l=A at*
 have e:A.take (8*l.length -u.toNat)=A.take ((A.length:Int) -u).toNat:=by
  congr 1
  omega
 rw[e]
 refine z00 Tryz.func170 rfl rfl rfl rfl rfl (fun E hn hb=>?_)
 repeat refine nx ?_
 exact rt1 []
theorem zjt {l:List Int} {k i:Nat} (hk:k≤8*l.length) (hi:i<k):((z34 l).take k).getD i 0=if z2E l i=true then 1 else 0:=by
 have h:=zdg l i (by omega)
 rw[List.getD_eq_getElem?_getD,List.getElem?_take,if_pos hi,←List.getD_eq_getElem?_getD,h]
 unfold z2E
 by_cases hb:l.getD (i/8) 0/2^(7 -i%8)%2=1
 ·rw[decide_eq_true hb,if_pos rfl,hb]
 ·rw[decide_eq_false hb,if_neg (by simp)]
  omega
abbrev onI (l:List Int) (k:Nat):List Int:=(z28 l k).map fun(i:Nat)=>(i:Int)
theorem zju (l:List Int) (k:Nat):onI l (k+1)=if z2E l k=true then onI l k++ [(k:Int)] else onI l k:=by
 unfold onI
 rw[za0]
 split
 ·rw[List.map_append]; rfl
 ·rfl
theorem zla (l:List Int) (k:Nat):(onI l k).length≤k:=by
 rw[List.length_map]
 exact zbj l k
set_option maxHeartbeats 8000000 in
theorem zbF (u:Int) (l:List Int) (hl:l.length≤12000000) (hw:WfB l) (hr:z0P u l=true):Ct Tryz.prog 125 [z3t u l] [] (.tup [I64 (z4P u l).1,lv (.int .i64 (z4P u l).2)]) [] []:=by
 have h1:=z9v u l (by omega) hw
 rw[hr] at h1
 have h2:=zjs u l hl hw hr
 obtain⟨hu,hk⟩:=z83 hr
 have hbg:= @zjt l (8*l.length -u.toNat)
 have hle:8*l.length -u.toNat≤8*l.length:=Nat.sub_le _ _
 have hlen:((z34 l).take (8*l.length -u.toNat)).length=8*l.length -u.toNat:=by rw[List.length_take,z9p]; omega
 unfold z4P
 dsimp only
 generalize 8*l.length -u.toNat=k at*
 generalize (z34 l).take k=L at*
 change Ct _ _ _ _ (.tup [I64 (if 32<k∨(0<k∧z2E l (k -1)=false) then([],6) else(onI l k,0)).1,lv (.int .i64 (if 32<k∨(0<k∧z2E l (k -1)=false) then(([]:List Int),(6:Int)) else(onI l k,0)).2)]) _ _
 refine z00 Tryz.func125 rfl rfl rfl rfl rfl (fun E hn hb=>?_)
 repeat refine nx ?_
 refine z0N 5 900 1 (.ints .i64 []) rfl rfl (.inr (.inl ⟨_,rfl⟩)) ?_
 refine z09 (St.le_of (l:= [(4,I64 L),(5,.c (.own 900 1 0 (onI l 0).length)),(6,lv (.int .i64 ((0:Nat):Int)))]) (h:= [(900,.row (.ints .i64 (onI l 0)))]) (by refine⟨?_,?_⟩<;>(repeat' (first | exact trivial | exact rfl | refine⟨?_,?_⟩))<;>first | exact rfl |(simp; done) | skip)) ?_
 refine z0h (ι:= {i:Nat//i≤k}) (fun i=>St.of [(4,I64 L),(5,.c (.own 900 1 0 (onI l i.1).length)),(6,lv (.int .i64 (i.1:Int)))] [(900,.row (.ints .i64 (onI l i.1)))]) (fun i=>k -i.1) (fun i=>?_) ⟨0,Nat.zero_le _⟩
 obtain⟨i,hi⟩:=i
 dsimp only
 by_cases hi2:i<k
 ·have hq:L.getD (i:Int).toNat 0=L.getD i 0:=rfl
  have hg:=hbg hle hi2
  have hnx:=zju l i
  have hol:=zla l i
  cases hb:z2E l i with
  | true=>
    rw[hb,if_pos rfl] at hg hnx
    repeat (first | refine nx ?_ | rw[hq,hg])
    refine z07 ⟨i+1,hi2⟩ (by dsimp only; omega) (St.le_of ⟨⟨rfl,?_,rfl⟩,?_⟩)
    ·dsimp only; rw[hnx]; rfl
    ·dsimp only; rw[hnx]; rfl
  | false=>
    rw[hb,if_neg (by simp)] at hg hnx
    repeat (first | refine nx ?_ | rw[hq,hg])
    refine z07 ⟨i+1,hi2⟩ (by dsimp only; omega) (St.le_of ⟨⟨rfl,?_,rfl⟩,?_⟩)
    ·dsimp only; rw[hnx]; rfl
    ·dsimp only; rw[hnx]; rfl
 ·obtain rfl:i=k:=by omega
  by_cases h32:32<i
  ·rw[if_pos (.inl h32)]
   repeat refine nx ?_
   exact rtU []
  ·by_cases h0:i=0
   ·subst h0
    rw[if_neg (by omega)]
    repeat refine nx ?_
    refine z06 rfl (by simp) (fun hc=>?_) (fun hc=>?_)
    ·exfalso
     rw[hlen] at hc
     simp at hc
    ·repeat refine nx ?_
     refine z2d 2 ?_
     exact rt1 []
   ·have hg:= @hbg (i -1) hle (by omega)
    have hq:L.getD ((L.length:Int) -1).toNat 0=L.getD (i -1) 0:=by rw[hlen]; congr 1; omega
    cases hbt:z2E l (i -1) with
    | true=>
      rw[hbt,if_pos rfl] at hg
      rw[if_neg (by rintro(h |⟨_,h⟩); exact h32 h; cases h)]
      repeat (first | refine nx ?_ | rw[hq,hg])
      refine z2d 2 ?_
      exact rt1 []
    | false=>
      rw[hbt,if_neg (by simp)] at hg
      rw[if_pos (.inr ⟨by omega,rfl⟩)]
      repeat (first | refine nx ?_ | rw[hq,hg])
      exact rtU []
theorem z1j (n:Int) (b:Bool):Ct Tryz.prog 111 [lv (.int .i64 n),lv (.bool b)] [] (z21 (2,n,b)) [] []:=by
 refine z00 Tryz.func111 rfl rfl rfl rfl rfl (fun E hn hb=>?_)
 repeat refine nx ?_
 exact rt1 []
def isT (l:List Int) (p:Nat) (t:z0g):Bool:=decide ((z0a l p).2.2=0)&&decide ((z0a l p).1.1=t)
theorem z2W (l:List Int) (p:Nat) (t:z0g) (hp:p≤l.length) (hl:l.length≤16000000) (hw:WfB l):Ct Tryz.prog 110 [.c (.ptr 0 0),z21 t] [z05 l p] (lv (.bool (isT l p t))) [z05 l p] []:=by
 have hat:=z1W l p
 have hrd:=z8F l p hp hl hw
 have hle:=z17 l p hp
 unfold isT
 generalize z0a l p=R at*
 obtain⟨⟨u,n⟩,q,e⟩:=R
 dsimp only at*
 have hbk:=z24 l q p hle.1 (by omega)
 obtain⟨u1,u2,u3⟩:=u
 obtain⟨t1,t2,t3⟩:=t
 by_cases he:e=0
 ·subst he
  obtain⟨B,hB⟩:∃ B,(decide ((0:Int)=0)&&decide ((u1,u2,u3)=(t1,t2,t3)))=B:=⟨_,rfl⟩
  rw[hB]
  refine z00 Tryz.func110 rfl rfl rfl rfl rfl (fun E hn hb=>?_)
  repeat refine nx ?_
  refine rt2 [] ?_ ?_
  ·refine congrArg (fun x=>lv (.bool x)) ?_
   rw[←hB]
   simp[z16,Cell.kill,Cell.kill1,Bool.and_assoc]
   try rfl
  ·trivial
 ·rw[decide_eq_false he]
  refine z00 Tryz.func110 rfl rfl rfl rfl rfl (fun E hn hb=>?_)
  repeat refine nx ?_
  refine rt2 [] ?_ ?_
  ·refine congrArg (fun x=>lv (.bool x)) ?_
   simp[he]
  ·trivial
abbrev zdh:Av:=lv (.slice none 0 0)
abbrev zjv:Av:=lv (.pointer none)
theorem zjw (l:List Int) (p:Nat) (n:Int) (b:Bool) (g:Nat) (hp:p≤l.length) (hl:l.length≤16000000) (hw:WfB l) (h:isT l p (2,n,b)=false):Ct Tryz.prog 108 [.c (.ptr 0 0),lv (.int .i64 n),lv (.bool b),.c (.fn (.func g) [] [])] [z05 l p] (.tup [zjv,lv (.int .i64 0)]) [z05 l p] []:=by
 have h1:=z1j n b
 have h2:=z2W l p (2,n,b) hp hl hw
 rw[h] at h2
 refine z00 Tryz.func108 rfl rfl rfl rfl rfl (fun E hn hb=>?_)
 repeat refine nx ?_
 exact rt1 []
theorem zjx (l:List Int) (p:Nat) (n:Int) (b:Bool) (g:Nat) (hp:p≤l.length) (hl:l.length≤16000000) (hw:WfB l) (h:isT l p (2,n,b)=false):Ct Tryz.prog 115 [.c (.ptr 0 0),lv (.int .i64 n),lv (.bool b),.c (.fn (.func g) [] [])] [z05 l p] (.tup [zdh,lv (.int .i64 0)]) [z05 l p] []:=by
 have h1:=z1j n b
 have h2:=z2W l p (2,n,b) hp hl hw
 rw[h] at h2
 refine z00 Tryz.func115 rfl rfl rfl rfl rfl (fun E hn hb=>?_)
 repeat refine nx ?_
 exact rt1 []
theorem zjy (l:List Int) (p:Nat) (n:Int) (b:Bool) (g:Nat) (hp:p≤l.length) (hl:l.length≤16000000) (hw:WfB l) (h:isT l p (2,n,b)=false):Ct Tryz.prog 112 [.c (.ptr 0 0),lv (.int .i64 n),lv (.bool b),.c (.fn (.func g) [] [])] [z05 l p] (.tup [zdh,lv (.int .i64 0)]) [z05 l p] []:=by
 have h1:=z1j n b
 have h2:=z2W l p (2,n,b) hp hl hw
 rw[h] at h2
 refine z00 Tryz.func112 rfl rfl rfl rfl rfl (fun E hn hb=>?_)
 repeat refine nx ?_
 exact rt1 []
theorem zjz (l:List Int) (p:Nat) (n:Int) (b:Bool) (g:Nat) (hp:p≤l.length) (hl:l.length≤16000000) (hw:WfB l) (h:isT l p (2,n,b)=false):Ct Tryz.prog 149 [.c (.ptr 0 0),lv (.int .i64 n),lv (.bool b),.c (.fn (.func g) [] [])] [z05 l p] (.tup [lv (.bool false),lv (.int .i64 0)]) [z05 l p] []:=by
 have h1:=z1j n b
 have h2:=z2W l p (2,n,b) hp hl hw
 rw[h] at h2
 refine z00 Tryz.func149 rfl rfl rfl rfl rfl (fun E hn hb=>?_)
 repeat refine nx ?_
 exact rt1 []
abbrev z2y (e:Int):Blk:= .cells [.ptr 1 0,.lf (.v (.int .i64 e))]
theorem z9q (l:List Int) (p:Nat) (n:Int) (b:Bool) (g:Nat) (hp:p≤l.length) (hl:l.length≤16000000) (hw:WfB l) (h:isT l p (2,n,b)=false):Ct Tryz.prog 51 [.c (.ptr 0 0),lv (.int .i64 n),lv (.bool b),.c (.fn (.func g) [] [])] [z2y 0,z05 l p] zjv [z2y 0,z05 l p] []:=by
 have h1:=zjw l p n b g hp hl hw h
 refine z00 Tryz.func51 rfl rfl rfl rfl rfl (fun E hn hb=>?_)
 repeat refine nx ?_
 exact rt1 []
theorem z9r (l:List Int) (p:Nat) (n:Int) (b:Bool) (g:Nat) (hp:p≤l.length) (hl:l.length≤16000000) (hw:WfB l) (h:isT l p (2,n,b)=false):Ct Tryz.prog 53 [.c (.ptr 0 0),lv (.int .i64 n),lv (.bool b),.c (.fn (.func g) [] [])] [z2y 0,z05 l p] zdh [z2y 0,z05 l p] []:=by
 have h1:=zjx l p n b g hp hl hw h
 refine z00 Tryz.func53 rfl rfl rfl rfl rfl (fun E hn hb=>?_)
 repeat refine nx ?_
 exact rt1 []
theorem zjA (l:List Int) (p:Nat) (n:Int) (b:Bool) (g:Nat) (hp:p≤l.length) (hl:l.length≤16000000) (hw:WfB l) (h:isT l p (2,n,b)=false):Ct Tryz.prog 55 [.c (.ptr 0 0),lv (.int .i64 n),lv (.bool b),.c (.fn (.func g) [] [])] [z2y 0,z05 l p] zdh [z2y 0,z05 l p] []:=by
 have h1:=zjy l p n b g hp hl hw h
 refine z00 Tryz.func55 rfl rfl rfl rfl rfl (fun E hn hb=>?_)
 repeat refine nx ?_
 exact rt1 []
theorem z4o (l:List Int) (p:Nat) (n:Int) (b:Bool) (g:Nat) (hp:p≤l.length) (hl:l.length≤16000000) (hw:WfB l) (h:isT l p (2,n,b)=false):Ct Tryz.prog 90 [.c (.ptr 0 0),lv (.int .i64 n),lv (.bool b),.c (.fn (.func g) [] [])] [z2y 0,z05 l p] (lv (.bool false)) [z2y 0,z05 l p] []:=by
 have h1:=zjz l p n b g hp hl hw h
 refine z00 Tryz.func90 rfl rfl rfl rfl rfl (fun E hn hb=>?_)
 repeat refine nx ?_
 exact rt1 []
theorem zht:Ct Tryz.prog 91 [.c (.ptr 0 0)] [z05 [255] 0] (.tup [lv (.bool true),lv (.int .i64 0)]) [z05 [255] 1] []:=by
 have h1:=z6s [255] 0 (by decide) (by decide)
 refine z00 Tryz.func91 rfl rfl rfl rfl rfl (fun E hn hb=>?_)
 repeat refine nx ?_
 exact rt1 []
theorem zhu (l:List Int) (p q:Nat) (n:Int) (b:Bool) (hp:p≤l.length) (hl:l.length≤16000000) (hw:WfB l) (h:isT l p (2,n,b)=true) (ho:z0m l p (2,n,b)=([255],q,0)):Ct Tryz.prog 149 [.c (.ptr 0 0),lv (.int .i64 n),lv (.bool b),.c (.fn (.func 91) [] [])] [z05 l p] (.tup [lv (.bool true),lv (.int .i64 0)]) [z05 l q] []:=by
 have h1:=z1j n b
 have h2:=z2W l p (2,n,b) hp hl hw
 rw[h] at h2
 have h3:=z2m l p (2,n,b) hp hl hw (by rw[ho])
 rw[ho] at h3
 have h4:=zht
 have h5:=z1b [255] 1 (by decide) (by decide)
 dsimp only at h3
 refine z00 Tryz.func149 rfl rfl rfl rfl rfl (fun E hn hb=>?_)
 repeat refine nx ?_
 exact rt1 []
theorem zhv (l:List Int) (p q:Nat) (n:Int) (b:Bool) (hp:p≤l.length) (hl:l.length≤16000000) (hw:WfB l) (h:isT l p (2,n,b)=true) (ho:z0m l p (2,n,b)=([255],q,0)):Ct Tryz.prog 90 [.c (.ptr 0 0),lv (.int .i64 n),lv (.bool b),.c (.fn (.func 91) [] [])] [z2y 0,z05 l p] (lv (.bool true)) [z2y 0,z05 l q] []:=by
 have h1:=zhu l p q n b hp hl hw h ho
 refine z00 Tryz.func90 rfl rfl rfl rfl rfl (fun E hn hb=>?_)
 repeat refine nx ?_
 exact rt1 []
end Go.Proofs.YtaagjnlkinojcaaGreat

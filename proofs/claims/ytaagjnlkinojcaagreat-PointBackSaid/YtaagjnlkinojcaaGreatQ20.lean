/-
  Chapter 16: reasons that may be, and those of contents. The conditions: rows that a machine can hold.
-/
import Derived.Test.YtaagjnlkinojcaaGreatN8
import Derived.Test.YtaagjnlkinojcaaGreatQ19
import Derived.Test.YtaagjnlkinojcaaGreatSxE
namespace Go.Proofs.YtaagjnlkinojcaaGreat
set_option linter.unusedSimpArgs false
set_option linter.unusedVariables false
open Go Go.Sx
set_option maxRecDepth 100000
def z9t:List Int→List (List Int)
 | []=> [[]]
 | x::xs=>z9t xs++(z9t xs).map (x:: ·)
def zbQ (lo:Int):Nat→List Int
 | 0=> []
 | n+1=>(lo+1)::zbQ (lo+1) n
theorem zdA:∀ xs:List Int,[] ∈ z9t xs
 | []=>by simp[z9t]
 | x::xs=>List.mem_append_left _ (zdA xs)
theorem zaK:∀(n:Nat) (lo:Int) (l:List Int),lo+n=8→z2K lo l=true→l ∈ z9t (zbQ lo n)
 | n,lo,[],_,_=>zdA _
 | 0,lo,x::l,h,hr=>by
   simp only[z2K,Bool.and_eq_true,decide_eq_true_iff] at hr
   omega
 | n+1,lo,x::l,h,hr=>by
   have h1:=hr
   simp only[z2K,Bool.and_eq_true,decide_eq_true_iff] at h1
   rw[zbQ,z9t]
   by_cases hx:x=lo+1
   ·subst hx
    exact List.mem_append_right _ (List.mem_map.2 ⟨l,zaK n (lo+1) l (by omega) h1.2,rfl⟩)
   ·refine List.mem_append_left _ (zaK n (lo+1) (x::l) (by omega) ?_)
    simp only[z2K,Bool.and_eq_true,decide_eq_true_iff]
    exact⟨⟨by omega,h1.1.2⟩,h1.2⟩
theorem z4j {p:List Int→Bool} (h:(z9t (zbQ (-1) 9)).all p=true) {l:List Int} (hr:z0T l=true):p l=true:=
 List.all_eq_true.1 h l (zaK 9 (-1) l (by decide) hr)
def flC (l:List Int):List Int:=
 let m:=l.getLastD (-1)
 let b:=l.foldr (fun x s=>if x≤7 then s+2^(7 -x).toNat else s) 0
 if m≤7 then [7 -m,b] else [7,b,128]
theorem zhX {l:List Int} (h:z0T l=true) (hne:l≠ []):z1p (flC l)=(l,(flC l).length,0):=by
 have:=z4j (p:=fun l=>l.isEmpty||decide (z1p (flC l)=(l,(flC l).length,0))) (by decide+kernel) h
 rcases Bool.or_eq_true_iff.1 this with h1 | h1
 ·exact absurd (List.isEmpty_iff.1 h1) hne
 ·exact of_decide_eq_true h1
theorem zad {l:List Int} (h:z0T l=true) (hne:l≠ []):WfB (flC l)∧(flC l).length≤3:=by
 have:=z4j (p:=fun l=>l.isEmpty||((flC l).all (fun x=>decide (0≤x∧x<256))&&decide ((flC l).length≤3))) (by decide+kernel) h
 rcases Bool.or_eq_true_iff.1 this with h1 | h1
 ·exact absurd (List.isEmpty_iff.1 h1) hne
 ·rw[Bool.and_eq_true,List.all_eq_true] at h1
  exact⟨fun x hx=>of_decide_eq_true (h1.1 x hx),of_decide_eq_true h1.2⟩
theorem zeR:∀(l:List Int) (lo:Int),z2K lo l=true→∀ x ∈ l,x≤8
 | [],_,_,x,h=>by cases h
 | y::l,lo,h,x,hx=>by
   simp only[z2K,Bool.and_eq_true,decide_eq_true_iff] at h
   rcases List.mem_cons.1 hx with rfl | hx
   ·exact h.1.2
   ·exact zeR l _ h.2 x hx
def zq7 (n:List Int) (k:Nat):List Int:=((List.range k).filter (z33 n)).map fun(i:Nat)=>(i:Int)
theorem zrS:((List.range 8).all fun u=>(List.range 256).all fun a=>!z33 [(a:Int)] (8 -u -1)||decide (flC (zq7 [(a:Int)] (8 -u))= [(u:Int),(a:Int)])||!decide ((a:Int)%2^u=0))=true:=by decide+kernel
theorem zrT:((List.range 256).all fun a=>decide (flC (zq7 [(a:Int),128] 9)= [7,(a:Int),128]))=true:=by decide+kernel
theorem zg7 {x l:List Int} {q:Nat} (hw:WfB x) (h:z1p x=(l,q,0)):z0T l=true∧l≠ []∧x=flC l∧q=x.length:=by
 match x,hw,h with
 | [],hw,h=>simp[z1p,z4w] at h
 | u::m,hw,h=>
   unfold z1p z4w at h
   dsimp only at h
   by_cases hr:z14 u m=true
   ·rw[if_pos hr] at h
    dsimp only at h
    rw[if_pos rfl] at h
    unfold z7n at h
    dsimp only at h
    generalize hk:8*m.length -u.toNat=k at*
    split at h
    ·simp at h
    ·rename_i h32
     dsimp only at h
     split at h
     ·rename_i hL
      obtain⟨_,hne,hro⟩:=hL
      simp only[Prod.mk.injEq] at h
      obtain⟨rfl,rfl,_⟩:=h
      refine⟨hro,hne,?_,rfl⟩
      have hk0:0<k:=by
       rcases Nat.eq_zero_or_pos k with h0 | h0
       ·subst h0; exact absurd rfl hne
       ·exact h0
      have hlast:z33 m (k -1)=true:=by
       cases hb:z33 m (k -1) with
       | true=>rfl
       | false=>exact absurd (.inr ⟨hk0,hb⟩) h32
      have hk9:k≤9:=by
       have:=zeR _ _ hro ((k -1:Nat):Int) (List.mem_map.2 ⟨k -1,List.mem_filter.2 ⟨List.mem_range.2 (by omega),hlast⟩,rfl⟩)
       omega
      have hmne:m≠ []:=by rintro rfl; simp at hk; omega
      unfold z14 at hr
      rw[if_neg hmne] at hr
      simp only[Bool.and_eq_true,decide_eq_true_iff] at hr
      obtain⟨⟨u1,u2⟩,u3⟩:=hr
      obtain⟨v,rfl⟩:∃ v:Nat,u=v:=⟨u.toNat,by omega⟩
      rw[Int.toNat_natCast] at hk u3
      match m,hmne,hk,hlast,u3,hw with
      | [a],_,hk,hlast,u3,hw=>
        have ha:=hw a (by simp)
        obtain⟨a,rfl⟩:∃ b:Nat,a=b:=⟨a.toNat,by omega⟩
        have hk:8 -v=k:=by simpa using hk
        subst hk
        have:=List.all_eq_true.1 (List.all_eq_true.1 zrS v (List.mem_range.2 (by omega))) a (List.mem_range.2 (by omega))
        rw[hlast] at this
        have u3:(a:Int)%2^v=0:=by simpa using u3
        rw[decide_eq_true u3] at this
        simp only[Bool.not_true,Bool.false_or,Bool.or_false,decide_eq_true_iff] at this
        exact this.symm
      | [a,b],_,hk,hlast,u3,hw=>
        have ha:=hw a (by simp)
        have hb:=hw b (by simp)
        obtain⟨a,rfl⟩:∃ b:Nat,a=b:=⟨a.toNat,by omega⟩
        have hk:16 -v=k:=by simpa using hk
        obtain rfl:v=7:=by omega
        subst hk
        have u3:b%128=0:=by simpa using u3
        have hl2:b/128%2=1:=by simpa[z33] using hlast
        obtain rfl:b=128:=by omega
        have:=List.all_eq_true.1 zrT a (List.mem_range.2 (by omega))
        exact(of_decide_eq_true this).symm
      | a::b::c::m,_,hk,_,_,_=>
        simp only[List.length_cons] at hk
        omega
     ·simp at h
   ·rw[if_neg hr] at h
    simp at h
def uOf (l:List Int):Int:=(8 -(z0R l l.length+1)%8)%8
def bOf (l:List Int):List Int:=orY l ((z0R l l.length+1+7)/8).toNat l.length
theorem zk2 {l:List Int} (h:z0T l=true) (hne:l≠ []):z4G (-1) l=true∧z14 (uOf l) (bOf l)=true∧uOf l::bOf l=flC l:=by
 have:=z4j (p:=fun l=>l.isEmpty||(z4G (-1) l&&z14 (uOf l) (bOf l)&&decide (uOf l::bOf l=flC l))) (by decide+kernel) h
 rcases Bool.or_eq_true_iff.1 this with h1 | h1
 ·exact absurd (List.isEmpty_iff.1 h1) hne
 ·rw[Bool.and_eq_true,Bool.and_eq_true] at h1
  exact⟨h1.1.1,h1.1.2,of_decide_eq_true h1.2⟩
def z1e:List Int→List Int→List Int
 | acc,[]=>acc
 | acc,x::l=>z1e (acc++List.replicate (x.toNat -acc.length) 0++ [1]) l
def z3f (b:List Int):Nat:=(8 -b.length%8)%8
def z1l (b:List Int) (i:Nat):Nat→Int
 | 0=>0
 | k+1=>2*z1l b i k+b.getD (i+k) 0
def z6O (b:List Int):List Int:=(List.range (b.length/8)).map fun i=>z1l b (8*i) 8
def z1G (l:List Int):List Int:=z1e [] l++List.replicate (z3f (z1e [] l)) 0
theorem zhY {l:List Int} (h:z0T l=true) (hne:l≠ []):((z3f (z1e [] l):Nat):Int)::z6O (z1G l)=flC l:=by
 have:=z4j (p:=fun l=>l.isEmpty||decide (((z3f (z1e [] l):Nat):Int)::z6O (z1G l)=flC l)) (by decide+kernel) h
 rcases Bool.or_eq_true_iff.1 this with h1 | h1
 ·exact absurd (List.isEmpty_iff.1 h1) hne
 ·exact of_decide_eq_true h1
end Go.Proofs.YtaagjnlkinojcaaGreat
namespace Go.Proofs.YtaagjnlkinojcaaGreat
set_option linter.unusedSimpArgs false
set_option linter.unusedVariables false
open Go.Sx
set_option maxRecDepth 100000
theorem zhZ {l:List Int} (h:z0T l=true) {i:Nat} (hi:i<l.length):0≤l.getD i 0∧l.getD i 0≤8∧(z1e [] (l.take i)).length≤(l.getD i 0).toNat∧
  z1e [] (l.take (i+1))=z1e [] (l.take i)++List.replicate ((l.getD i 0).toNat -(z1e [] (l.take i)).length) 0++ [1]:=by
 have:=z4j (p:=fun l=>(List.range l.length).all fun i=>decide (0≤l.getD i 0∧l.getD i 0≤8∧(z1e [] (l.take i)).length≤(l.getD i 0).toNat∧
  z1e [] (l.take (i+1))=z1e [] (l.take i)++List.replicate ((l.getD i 0).toNat -(z1e [] (l.take i)).length) 0++ [1])) (by decide+kernel) h
 exact of_decide_eq_true (List.all_eq_true.1 this i (List.mem_range.2 hi))
theorem zk3 {l:List Int} (h:z0T l=true):l.length≤9∧(z1e [] l).length≤9∧(z1G l).length%8=0∧(z1G l).length≤16∧(z1G l).length=(z1e [] l).length+z3f (z1e [] l):=by
 have:=z4j (p:=fun l=>decide (l.length≤9∧(z1e [] l).length≤9∧(z1G l).length%8=0∧(z1G l).length≤16∧(z1G l).length=(z1e [] l).length+z3f (z1e [] l))) (by decide+kernel) h
 exact of_decide_eq_true this
theorem zk4 {l:List Int} (h:z0T l=true) {i k:Nat} (hi:i<(z1G l).length/8) (hk:k<8):0≤z1l (z1G l) (8*i) k∧z1l (z1G l) (8*i) k≤127∧0≤(z1G l).getD (8*i+k) 0∧(z1G l).getD (8*i+k) 0≤1:=by
 have:=z4j (p:=fun l=>(List.range ((z1G l).length/8)).all fun i=>(List.range 8).all fun k=>decide (0≤z1l (z1G l) (8*i) k∧z1l (z1G l) (8*i) k≤127∧0≤(z1G l).getD (8*i+k) 0∧(z1G l).getD (8*i+k) 0≤1)) (by decide+kernel) h
 exact of_decide_eq_true (List.all_eq_true.1 (List.all_eq_true.1 this i (List.mem_range.2 hi)) k (List.mem_range.2 hk))
def z57 (B:List Int):Nat→List Int
 | 0=>B
 | j+1=>z57 B j++ [0]
theorem z8N (B:List Int):∀ j,z57 B j=B++List.replicate j 0
 | 0=>(List.append_nil B).symm
 | j+1=>by rw[z57,z8N B j,List.append_assoc,←List.replicate_succ']
theorem zdB (B:List Int) (j:Nat):(z57 B j).length=B.length+j:=by rw[z8N,List.length_append,List.length_replicate]
abbrev iR (l:List Int):Blk:= .row (.ints .i64 l)
set_option maxHeartbeats 8000000 in
theorem zk5 (l:List Int) (h:z0T l=true):Ct Tryz.prog 152 [I64 l] [] (.tup [z4e ((z3f (z1e [] l):Nat):Int) (z6O (z1G l)),lv (.bool true)]) [] []:=by
 obtain⟨p0,p1,p2,p3,p4⟩:=zk3 h
 have p6:=fun i k (hi:i<(z1G l).length/8) (hk:k<8)=>zk4 h hi hk
 have hst:=fun i (hi:i<l.length)=>zhZ h hi
 refine z00 Tryz.func152 rfl rfl rfl rfl rfl (fun E hn hb=>?_)
 repeat refine nx ?_
 refine z10 4 900 1 (.ints .i64 []) rfl rfl (.inr (.inl ⟨_,rfl⟩)) ?_
 refine z09 (St.le_of (l:= [(0,I64 l),(2,.c (.ptr 66 0)),(4,.c (.own 900 1 0 (z1e [] (l.take 0)).length)),(5,lv (.int .i64 ((0:Nat):Int)))]) (h:= [(66,.cells [z37 0,.lf (.v (.slice none 0 0))]),(900,iR (z1e [] (l.take 0)))]) (by refine⟨?_,?_⟩<;>(repeat' (first | exact trivial | exact rfl | refine⟨?_,?_⟩))<;>first | exact rfl |(simp; done) | skip)) ?_
 refine z0k (ι:= {i:Nat//i≤l.length}) (fun i=>St.of [(0,I64 l),(2,.c (.ptr 66 0)),(4,.c (.own 900 1 0 (z1e [] (l.take i.1)).length)),(5,lv (.int .i64 (i.1:Int)))] [(66,.cells [z37 0,.lf (.v (.slice none 0 0))]),(900,iR (z1e [] (l.take i.1)))]) (fun i=>l.length -i.1) (fun i=>?_) ⟨0,Nat.zero_le _⟩
 obtain⟨i,hi⟩:=i
 dsimp only
 by_cases hi2:i<l.length
 ·obtain⟨s1,s2,s3,s4⟩:=hst i hi2
  have hq:l.getD (i:Int).toNat 0=l.getD i 0:=rfl
  rw[←z8N] at s4
  generalize l.getD i 0=x at*
  generalize z1e [] (l.take i)=B at*
  repeat (first | refine nx ?_ | rw[hq])
  refine z09 (St.le_of (l:= [(0,I64 l),(2,.c (.ptr 66 0)),(4,.c (.own 900 1 0 (z57 B 0).length)),(5,lv (.int .i64 (i:Int)))]) (h:= [(66,.cells [z37 0,.lf (.v (.slice none 0 0))]),(900,iR (z57 B 0))]) (by refine⟨?_,?_⟩<;>(repeat' (first | exact trivial | exact rfl | refine⟨?_,?_⟩))<;>first | exact rfl |(simp; done) | skip)) ?_
  refine z0k (ι:= {j:Nat//j≤x.toNat -B.length}) (fun j=>St.of [(0,I64 l),(2,.c (.ptr 66 0)),(4,.c (.own 900 1 0 (z57 B j.1).length)),(5,lv (.int .i64 (i:Int)))] [(66,.cells [z37 0,.lf (.v (.slice none 0 0))]),(900,iR (z57 B j.1))]) (fun j=>x.toNat -B.length -j.1) (fun j=>?_) ⟨0,Nat.zero_le _⟩
  obtain⟨j,hj⟩:=j
  dsimp only
  have hzl:=zdB B j
  by_cases hj2:j<x.toNat -B.length
  ·repeat (first | refine nx ?_ | rw[hq])
   refine z08 ⟨j+1,by omega⟩ (by dsimp only; omega) (St.le_of ⟨⟨rfl,rfl,rfl,rfl⟩,⟨rfl,rfl⟩⟩)
  ·obtain rfl:j=x.toNat -B.length:=by omega
   repeat (first | refine nx ?_ | rw[hq])
   refine z08 ⟨i+1,by omega⟩ (by dsimp only; omega) (St.le_of ⟨⟨rfl,rfl,?_,rfl⟩,⟨rfl,?_⟩⟩)
   ·dsimp only; rw[s4]; rfl
   ·dsimp only; rw[s4]; rfl
 ·obtain rfl:i=l.length:=by omega
  rw[List.take_length]
  have hpl:z1G l=z57 (z1e [] l) (z3f (z1e [] l)):=(z8N _ _).symm
  have hpd:z3f (z1e [] l)=(8 -(z1e [] l).length%8)%8:=rfl
  generalize z1e [] l=B at*
  repeat refine nx ?_
  refine z09 (St.le_of (l:= [(2,.c (.ptr 66 0)),(4,.c (.own 900 1 0 (z57 B 0).length)),(6,.c (.ptr 70 0))]) (h:= [(66,.cells [z37 0,.lf (.v (.slice none 0 0))]),(70,.cells [z37 ((0:Nat):Int),.lf (.v (.slice none 0 0))]),(900,iR (z57 B 0))]) (by refine⟨?_,?_⟩<;>(repeat' (first | exact trivial | exact rfl | refine⟨?_,?_⟩))<;>first | exact rfl |(simp; done) | skip)) ?_
  refine z0k (ι:= {j:Nat//j≤z3f B}) (fun j=>St.of [(2,.c (.ptr 66 0)),(4,.c (.own 900 1 0 (z57 B j.1).length)),(6,.c (.ptr 70 0))] [(66,.cells [z37 0,.lf (.v (.slice none 0 0))]),(70,.cells [z37 (j.1:Int),.lf (.v (.slice none 0 0))]),(900,iR (z57 B j.1))]) (fun j=>z3f B -j.1) (fun j=>?_) ⟨0,Nat.zero_le _⟩
  obtain⟨j,hj⟩:=j
  dsimp only
  have hzl:=zdB B j
  by_cases hj2:j<z3f B
  ·repeat refine nx ?_
   refine z08 ⟨j+1,by omega⟩ (by dsimp only; omega) (St.le_of ⟨⟨rfl,rfl,rfl⟩,⟨rfl,rfl,rfl⟩⟩)
  ·obtain rfl:j=z3f B:=by omega
   rw[←hpl]
   have hby:z6O (z1G l)=(List.range ((z1G l).length/8)).map fun m=>z1l (z1G l) (8*m) 8:=rfl
   generalize z1G l=BP at*
   repeat refine nx ?_
   refine z7H (fun a w h=>SR.cell_nil 70 1 901 rfl rfl rfl rfl rfl h) ?_
   refine z09 (St.le_of (l:= [(2,.c (.ptr 66 0)),(4,.c (.own 900 1 0 BP.length)),(6,.c (.ptr 70 0)),(7,lv (.int .i64 (0:Int)))]) (h:= [(66,.cells [z37 0,.lf (.v (.slice none 0 0))]),(70,.cells [z37 (z3f B:Int),.own 901 1 0 ((List.range 0).map fun m=>z1l BP (8*m) 8).length]),(900,iR BP),(901,.row (.ints .u8 ((List.range 0).map fun m=>z1l BP (8*m) 8)))]) (by refine⟨?_,?_⟩<;>(repeat' (first | exact trivial | exact rfl | refine⟨?_,?_⟩))<;>first | exact rfl |(simp; done) | skip)) ?_
   refine z0k (ι:= {i:Nat//i≤BP.length/8}) (fun i=>St.of [(2,.c (.ptr 66 0)),(4,.c (.own 900 1 0 BP.length)),(6,.c (.ptr 70 0)),(7,lv (.int .i64 (8*((i.1:Nat):Int):Int)))] [(66,.cells [z37 0,.lf (.v (.slice none 0 0))]),(70,.cells [z37 (z3f B:Int),.own 901 1 0 ((List.range i.1).map fun m=>z1l BP (8*m) 8).length]),(900,iR BP),(901,.row (.ints .u8 ((List.range i.1).map fun m=>z1l BP (8*m) 8)))]) (fun i=>BP.length/8 -i.1) (fun i=>?_) ⟨0,Nat.zero_le _⟩
   obtain⟨i,hi⟩:=i
   dsimp only
   by_cases hi2:i<BP.length/8
   ·have q6:=fun k hk=>p6 i k hi2 hk
    repeat refine nx ?_
    refine z09 (St.le_of (l:= [(2,.c (.ptr 66 0)),(4,.c (.own 900 1 0 BP.length)),(6,.c (.ptr 70 0)),(7,lv (.int .i64 (8*((i:Nat):Int):Int))),(8,lv (.int .i64 (z1l BP (8*i) 0))),(9,lv (.int .i64 ((0:Nat):Int)))]) (h:= [(66,.cells [z37 0,.lf (.v (.slice none 0 0))]),(70,.cells [z37 (z3f B:Int),.own 901 1 0 ((List.range i).map fun m=>z1l BP (8*m) 8).length]),(900,iR BP),(901,.row (.ints .u8 ((List.range i).map fun m=>z1l BP (8*m) 8)))]) (by refine⟨?_,?_⟩<;>(repeat' (first | exact trivial | exact rfl | refine⟨?_,?_⟩))<;>first | exact rfl |(simp; done) | skip)) ?_
    refine z0k (ι:= {k:Nat//k≤8}) (fun k=>St.of [(2,.c (.ptr 66 0)),(4,.c (.own 900 1 0 BP.length)),(6,.c (.ptr 70 0)),(7,lv (.int .i64 (8*((i:Nat):Int):Int))),(8,lv (.int .i64 (z1l BP (8*i) k.1))),(9,lv (.int .i64 (k.1:Int)))] [(66,.cells [z37 0,.lf (.v (.slice none 0 0))]),(70,.cells [z37 (z3f B:Int),.own 901 1 0 ((List.range i).map fun m=>z1l BP (8*m) 8).length]),(900,iR BP),(901,.row (.ints .u8 ((List.range i).map fun m=>z1l BP (8*m) 8)))]) (fun k=>8 -k.1) (fun k=>?_) ⟨0,Nat.zero_le _⟩
    obtain⟨k,hk⟩:=k
    dsimp only
    by_cases hk2:k<8
    ·obtain⟨r1,r2,r3,r4⟩:=q6 k hk2
     have hq:BP.getD (8*(i:Int)+(k:Int)).toNat 0=BP.getD (8*i+k) 0:=by
      rw[show(8*(i:Int)+(k:Int)).toNat=8*i+k by omega]
     have hst2:z1l BP (8*i) (k+1)=2*z1l BP (8*i) k+BP.getD (8*i+k) 0:=rfl
     clear hst2
     generalize hy:BP.getD (8*i+k) 0=y at*
     generalize hv:z1l BP (8*i) k=v at*
     repeat (first | refine nx ?_ | rw[hq])
     refine z08 ⟨k+1,by omega⟩ (by dsimp only; omega) (St.le_of ⟨⟨rfl,rfl,rfl,rfl,congrArg (fun x=>lv (.int .i64 x)) ?_,rfl⟩,⟨rfl,rfl,rfl,rfl⟩⟩)
     show _=2*z1l BP (8*i) k+BP.getD (8*i+k) 0
     rw[hv]
     exact congrArg (fun n=>2*v+BP.getD n 0) (show 0+(8*(i:Int)+(k:Int)).toNat=8*i+k by omega)
    ·obtain rfl:k=8:=by omega
     have hv8:0≤z1l BP (8*i) 8∧z1l BP (8*i) 8<256:=by
      obtain⟨r1,r2,r3,r4⟩:=q6 7 (by omega)
      show 0≤2*z1l BP (8*i) 7+BP.getD (8*i+7) 0∧2*z1l BP (8*i) 7+BP.getD (8*i+7) 0<256
      omega
     have hwr:=(zec (z1l BP (8*i) 8)).2 hv8
     have hml:((List.range i).map fun m=>z1l BP (8*m) 8).length=i:=by rw[List.length_map,List.length_range]
     have hrs:((List.range (i+1)).map fun m=>z1l BP (8*m) 8)=((List.range i).map fun m=>z1l BP (8*m) 8)++ [z1l BP (8*i) 8]:=by rw[List.range_succ,List.map_append]; rfl
     generalize z1l BP (8*i) 8=v at*
     repeat refine nx ?_
     refine z08 ⟨i+1,by omega⟩ (by dsimp only; omega) (St.le_of ⟨⟨rfl,rfl,rfl,congrArg (fun x=>lv (.int .i64 x)) ?_⟩,⟨rfl,?_,rfl,?_⟩⟩)
     ·show _=8*((i+1:Nat):Int)
      omega
     ·dsimp only; rw[hrs]; simp only[List.length_append]; rfl
     ·dsimp only; rw[hrs]; rfl
   ·obtain rfl:i=BP.length/8:=by omega
    rw[←hby]
    repeat refine nx ?_
    refine zpO 901 66 ?_
    exact rt1 []
end Go.Proofs.YtaagjnlkinojcaaGreat
namespace Go.Proofs.YtaagjnlkinojcaaGreat
set_option linter.unusedSimpArgs false
set_option linter.unusedVariables false
open Go.Sx
set_option maxRecDepth 10000
abbrev ofU (l:List Int):Int:=(8 -(z0R l l.length+1)%8)%8
abbrev z7x (l:List Int):List Int:=orY l ((z0R l l.length+1+7)/8).toNat l.length
def zaL:Nat→List (List Int)
 | 0=> [[]]
 | n+1=>zaL n++(zaL n).map fun l=>((8:Int) -(n:Int))::l
theorem z7y:∀(n:Nat) (l:List Int),z2K ((8:Int) -(n:Int)) l=true→l ∈ zaL n
 | 0,[],_=>by simp[zaL]
 | 0,x::l,h=>by
   simp only[z2K,Bool.and_eq_true,decide_eq_true_eq] at h
   omega
 | n+1,[],h=>List.mem_append_left _ (z7y n [] rfl)
 | n+1,x::l,h=>by
   by_cases hx:x=(8:Int) -(n:Int)
   ·subst hx
    simp only[z2K,Bool.and_eq_true,decide_eq_true_eq] at h
    exact List.mem_append_right _ (List.mem_map.2 ⟨l,z7y n l h.2,rfl⟩)
   ·refine List.mem_append_left _ (z7y n (x::l) ?_)
    simp only[z2K,Bool.and_eq_true,decide_eq_true_eq] at h ⊢
    exact⟨⟨by omega,h.1.2⟩,h.2⟩
theorem zi0 {l:List Int} (h:z0T l=true):l ∈ zaL 9:=z7y 9 l h
theorem zi1:(zaL 9).all (fun l=>z14 (ofU l) (z7x l))=true:=by decide+kernel
theorem zeS:∀(l:List Int) (lo:Int),z2K lo l=true→z4G lo l=true
 | [],_,_=>rfl
 | x::l,lo,h=>by
   simp only[z2K,Bool.and_eq_true,decide_eq_true_eq] at h
   simp only[z4G,Bool.and_eq_true,decide_eq_true_eq]
   exact⟨⟨h.1.1,by omega⟩,zeS l x h.2⟩
theorem zeT:∀(l:List Int) (lo:Int),z4G lo l=true→(∀ x ∈ l,x≤8)→z2K lo l=true
 | [],_,_,_=>rfl
 | x::l,lo,h,h8=>by
   simp only[z4G,Bool.and_eq_true,decide_eq_true_eq] at h
   simp only[z2K,Bool.and_eq_true,decide_eq_true_eq]
   exact⟨⟨h.1.1,h8 x (by simp)⟩,zeT l x h.2 fun y hy=>h8 y (by simp[hy])⟩
theorem zi2:∀(l:List Int) (lo:Int),z2K lo l=true→∀ x ∈ l,x≤8
 | [],_,_,x,hx=>by simp at hx
 | y::l,lo,h,x,hx=>by
   simp only[z2K,Bool.and_eq_true,decide_eq_true_eq] at h
   rcases List.mem_cons.1 hx with rfl | h2
   ·exact h.1.2
   ·exact zi2 l y h.2 x h2
theorem zq8 (c x:Int):0≤stV c x∧stV c x<256:=by
 unfold stV
 simp only[Go.IntKind.wrap,Go.IntKind.signed,Go.IntKind.bits]
 simp
 omega
theorem zi3 (l:List Int) (m:Nat):∀ i,WfB (orY l m i)
 | 0=>fun x hx=>by
   rw[List.eq_of_mem_replicate hx]
   omega
 | i+1=>fun x hx=>by
   rw[orY,stY] at hx
   rcases List.mem_or_eq_of_mem_set hx with h | h
   ·exact zi3 l m i x h
   ·rw[h]; exact zq8 _ _
theorem zlq (u:Int) (l:List Int) (hl:l.length≤16000000) (hw:WfB l) (hr:z14 u l=false):Ct Tryz.prog 162 [z4e u l] [] (lv (.int .i64 0)) [] []:=by
 have h:=z4m u l hl hw
 rw[hr] at h
 refine z00 Tryz.func162 rfl rfl rfl rfl rfl (fun E hn hb=>?_)
 repeat refine nx ?_
 exact rt1 []
theorem zi4 (l:List Int) (hl:l.length≤16000000):Ct Tryz.prog 119 [I64 l] [] (lv (.bool (decide (0<l.length)&&z0T l))) [] []:=by
 cases hr:z4G (-1) l with
 | false=>
   have h:=zkU l hl hr
   have hlen:=z8H 0 [] (by simp) (fun x hx=>by simp at hx) rfl (by omega)
   have hn:z0T l=false:=by
    rw[Bool.eq_false_iff]
    intro h2
    rw[zeS l (-1) h2] at hr
    cases hr
   rw[hn,Bool.and_false]
   refine z00 Tryz.func119 rfl rfl rfl rfl rfl (fun E hn hb=>?_)
   repeat refine nx ?_
   exact rt1 []
 | true=>
   have h:=zh2 l hl hr
   have hu:=(zaw l).1 hr
   have hlr:=zbd hu
   have hge:=fun i (h:i<l.length)=>zcP hu h
   have hyl:=z8C l ((z0R l l.length+1+7)/8).toNat l.length
   have hyw:=zi3 l ((z0R l l.length+1+7)/8).toNat l.length
   have hok:0<l.length→(z0T l=true↔z0R l l.length≤8):=fun h0=>by
    constructor
    ·intro h2
     unfold z0R
     rw[if_neg (by omega)]
     exact zi2 l (-1) h2 _ (z1m (by omega))
    ·intro h2
     refine zeT l (-1) hr fun x hx=>?_
     obtain⟨j,hj,rfl⟩:=List.mem_iff_getElem.1 hx
     have:=hge j hj
     rw[List.getD_eq_getElem?_getD,List.getElem?_eq_getElem hj] at this
     simp at this
     omega
   have hri:z0T l=true→z14 (ofU l) (z7x l)=true:=fun h2=>List.all_eq_true.1 zi1 l (zi0 h2)
   have hl0:l.length=0→z0R l l.length= -1:=fun h0=>by unfold z0R; rw[if_pos h0]
   have hlp:0<l.length→0≤z0R l l.length:=fun h0=>by have:=hge 0 h0; have:=(hu 0 h0).1; unfold z0R at this; rw[if_pos rfl] at this; omega
   cases hrs:z14 (ofU l) (z7x l) with
   | true=>
     have hlen:=z8H (ofU l) (z7x l) (by rw[hyl]; omega) hyw hrs (by unfold ofU; omega)
     rw[show 8*((z7x l).length:Int) -ofU l=z0R l l.length+1 by unfold z7x ofU; rw[hyl]; omega] at hlen
     unfold ofU z7x at*
     generalize z0R l l.length=L at*
     by_cases h0:l.length=0
     ·have:=hl0 h0
      subst this
      rw[decide_eq_false (by omega),Bool.false_and]
      refine z00 Tryz.func119 rfl rfl rfl rfl rfl (fun E hn hb=>?_)
      repeat refine nx ?_
      exact rt1 []
     ·have h1:=hok (by omega)
      have h2:=hlp (by omega)
      rw[decide_eq_true (by omega:0<l.length),Bool.true_and]
      by_cases h8:L≤8
      ·rw[h1.2 h8]
       refine z00 Tryz.func119 rfl rfl rfl rfl rfl (fun E hn hb=>?_)
       repeat refine nx ?_
       refine rt2 [] (congrArg (fun x=>lv (.bool x)) ?_) trivial
       simp
       omega
      ·rw[Bool.eq_false_iff.2 fun h=>h8 (h1.1 h)]
       refine z00 Tryz.func119 rfl rfl rfl rfl rfl (fun E hn hb=>?_)
       repeat refine nx ?_
       refine rt2 [] (congrArg (fun x=>lv (.bool x)) ?_) trivial
       simp
       omega
   | false=>
     have hlen:=zlq (ofU l) (z7x l) (by rw[hyl]; omega) hyw hrs
     have hn:(decide (0<l.length)&&z0T l)=false:=by
      rw[Bool.eq_false_iff]
      intro h2
      rw[Bool.and_eq_true] at h2
      rw[hri h2.2] at hrs
      cases hrs
     rw[hn]
     unfold ofU z7x at*
     generalize orY l ((z0R l l.length+1+7)/8).toNat l.length=Y at*
     generalize (8 -(z0R l l.length+1)%8)%8=U at*
     refine z00 Tryz.func119 rfl rfl rfl rfl rfl (fun E hn hb=>?_)
     repeat refine nx ?_
     exact rt1 []
end Go.Proofs.YtaagjnlkinojcaaGreat

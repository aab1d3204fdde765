/-
  Chapter 16: reasons and a place at a cursor. The conditions: rows of at most a hundred thousand bytes.
-/
import Derived.Test.YtaagjnlkinojcaaGreatJ9
import Derived.Test.YtaagjnlkinojcaaGreatSxE
namespace Go.Proofs.YtaagjnlkinojcaaGreat
set_option linter.unusedSimpArgs false
set_option linter.unusedVariables false
open Go.Sx
set_option maxRecDepth 100000
theorem zgg {l:List Int} (h:z0Z l=true) {i:Nat} (hi:i<l.length):0≤l.getD i 0∧l.getD i 0≤8∧(z1d [] (l.take i)).length≤(l.getD i 0).toNat∧
  z1d [] (l.take (i+1))=z1d [] (l.take i)++List.replicate ((l.getD i 0).toNat -(z1d [] (l.take i)).length) 0++ [1]:=by
 have:=z4j (p:=fun l=>(List.range l.length).all fun i=>decide (0≤l.getD i 0∧l.getD i 0≤8∧(z1d [] (l.take i)).length≤(l.getD i 0).toNat∧
  z1d [] (l.take (i+1))=z1d [] (l.take i)++List.replicate ((l.getD i 0).toNat -(z1d [] (l.take i)).length) 0++ [1])) (by decide+kernel) h
 exact of_decide_eq_true (List.all_eq_true.1 this i (List.mem_range.2 hi))
theorem zih {l:List Int} (h:z0Z l=true):l.length≤9∧(z1d [] l).length≤9∧(z1y l).length%8=0∧(z1y l).length≤16∧(z1y l).length=(z1d [] l).length+z3b (z1d [] l):=by
 have:=z4j (p:=fun l=>decide (l.length≤9∧(z1d [] l).length≤9∧(z1y l).length%8=0∧(z1y l).length≤16∧(z1y l).length=(z1d [] l).length+z3b (z1d [] l))) (by decide+kernel) h
 exact of_decide_eq_true this
theorem zii {l:List Int} (h:z0Z l=true) {i k:Nat} (hi:i<(z1y l).length/8) (hk:k<8):0≤z1k (z1y l) (8*i) k∧z1k (z1y l) (8*i) k≤127∧0≤(z1y l).getD (8*i+k) 0∧(z1y l).getD (8*i+k) 0≤1:=by
 have:=z4j (p:=fun l=>(List.range ((z1y l).length/8)).all fun i=>(List.range 8).all fun k=>decide (0≤z1k (z1y l) (8*i) k∧z1k (z1y l) (8*i) k≤127∧0≤(z1y l).getD (8*i+k) 0∧(z1y l).getD (8*i+k) 0≤1)) (by decide+kernel) h
 exact of_decide_eq_true (List.all_eq_true.1 (List.all_eq_true.1 this i (List.mem_range.2 hi)) k (List.mem_range.2 hk))
def z4O (B:List Int):Nat→List Int
 | 0=>B
 | j+1=>z4O B j++ [0]
theorem z8p (B:List Int):∀ j,z4O B j=B++List.replicate j 0
 | 0=>(List.append_nil B).symm
 | j+1=>by rw[z4O,z8p B j,List.append_assoc,←List.replicate_succ']
theorem zcr (B:List Int) (j:Nat):(z4O B j).length=B.length+j:=by rw[z8p,List.length_append,List.length_replicate]
abbrev iR (l:List Int):Blk:= .row (.ints .i64 l)
set_option maxHeartbeats 8000000 in
theorem zij (l:List Int) (h:z0Z l=true):Ct Tryz.prog 152 [I64 l] [] (.tup [z3t ((z3b (z1d [] l):Nat):Int) (z6y (z1y l)),lv (.bool true)]) [] []:=by
 obtain⟨p0,p1,p2,p3,p4⟩:=zih h
 have p6:=fun i k (hi:i<(z1y l).length/8) (hk:k<8)=>zii h hi hk
 have hst:=fun i (hi:i<l.length)=>zgg h hi
 refine z00 Tryz.func152 rfl rfl rfl rfl rfl (fun E hn hb=>?_)
 repeat refine nx ?_
 refine z0N 4 900 1 (.ints .i64 []) rfl rfl (.inr (.inl ⟨_,rfl⟩)) ?_
 refine z09 (St.le_of (l:= [(0,I64 l),(2,.c (.ptr 66 0)),(4,.c (.own 900 1 0 (z1d [] (l.take 0)).length)),(5,lv (.int .i64 ((0:Nat):Int)))]) (h:= [(66,.cells [z35 0,.lf (.v (.slice none 0 0))]),(900,iR (z1d [] (l.take 0)))]) (by refine⟨?_,?_⟩<;>(repeat' (first | exact trivial | exact rfl | refine⟨?_,?_⟩))<;>first | exact rfl |(simp; done) | skip)) ?_
 refine z0h (ι:= {i:Nat//i≤l.length}) (fun i=>St.of [(0,I64 l),(2,.c (.ptr 66 0)),(4,.c (.own 900 1 0 (z1d [] (l.take i.1)).length)),(5,lv (.int .i64 (i.1:Int)))] [(66,.cells [z35 0,.lf (.v (.slice none 0 0))]),(900,iR (z1d [] (l.take i.1)))]) (fun i=>l.length -i.1) (fun i=>?_) ⟨0,Nat.zero_le _⟩
 obtain⟨i,hi⟩:=i
 dsimp only
 by_cases hi2:i<l.length
 ·obtain⟨s1,s2,s3,s4⟩:=hst i hi2
  have hq:l.getD (i:Int).toNat 0=l.getD i 0:=rfl
  rw[←z8p] at s4
  generalize l.getD i 0=x at*
  generalize z1d [] (l.take i)=B at*
  repeat (first | refine nx ?_ | rw[hq])
  refine z09 (St.le_of (l:= [(0,I64 l),(2,.c (.ptr 66 0)),(4,.c (.own 900 1 0 (z4O B 0).length)),(5,lv (.int .i64 (i:Int)))]) (h:= [(66,.cells [z35 0,.lf (.v (.slice none 0 0))]),(900,iR (z4O B 0))]) (by refine⟨?_,?_⟩<;>(repeat' (first | exact trivial | exact rfl | refine⟨?_,?_⟩))<;>first | exact rfl |(simp; done) | skip)) ?_
  refine z0h (ι:= {j:Nat//j≤x.toNat -B.length}) (fun j=>St.of [(0,I64 l),(2,.c (.ptr 66 0)),(4,.c (.own 900 1 0 (z4O B j.1).length)),(5,lv (.int .i64 (i:Int)))] [(66,.cells [z35 0,.lf (.v (.slice none 0 0))]),(900,iR (z4O B j.1))]) (fun j=>x.toNat -B.length -j.1) (fun j=>?_) ⟨0,Nat.zero_le _⟩
  obtain⟨j,hj⟩:=j
  dsimp only
  have hzl:=zcr B j
  by_cases hj2:j<x.toNat -B.length
  ·repeat (first | refine nx ?_ | rw[hq])
   refine z07 ⟨j+1,by omega⟩ (by dsimp only; omega) (St.le_of ⟨⟨rfl,rfl,rfl,rfl⟩,⟨rfl,rfl⟩⟩)
  ·obtain rfl:j=x.toNat -B.length:=by omega
   repeat (first | refine nx ?_ | rw[hq])
   refine z07 ⟨i+1,by omega⟩ (by dsimp only; omega) (St.le_of ⟨⟨rfl,rfl,?_,rfl⟩,⟨rfl,?_⟩⟩)
   ·dsimp only; rw[s4]; rfl
   ·dsimp only; rw[s4]; rfl
 ·obtain rfl:i=l.length:=by omega
  rw[List.take_length]
  have hpl:z1y l=z4O (z1d [] l) (z3b (z1d [] l)):=(z8p _ _).symm
  have hpd:z3b (z1d [] l)=(8 -(z1d [] l).length%8)%8:=rfl
  generalize z1d [] l=B at*
  repeat refine nx ?_
  refine z09 (St.le_of (l:= [(2,.c (.ptr 66 0)),(4,.c (.own 900 1 0 (z4O B 0).length)),(6,.c (.ptr 70 0))]) (h:= [(66,.cells [z35 0,.lf (.v (.slice none 0 0))]),(70,.cells [z35 ((0:Nat):Int),.lf (.v (.slice none 0 0))]),(900,iR (z4O B 0))]) (by refine⟨?_,?_⟩<;>(repeat' (first | exact trivial | exact rfl | refine⟨?_,?_⟩))<;>first | exact rfl |(simp; done) | skip)) ?_
  refine z0h (ι:= {j:Nat//j≤z3b B}) (fun j=>St.of [(2,.c (.ptr 66 0)),(4,.c (.own 900 1 0 (z4O B j.1).length)),(6,.c (.ptr 70 0))] [(66,.cells [z35 0,.lf (.v (.slice none 0 0))]),(70,.cells [z35 (j.1:Int),.lf (.v (.slice none 0 0))]),(900,iR (z4O B j.1))]) (fun j=>z3b B -j.1) (fun j=>?_) ⟨0,Nat.zero_le _⟩
  obtain⟨j,hj⟩:=j
  dsimp only
  have hzl:=zcr B j
  by_cases hj2:j<z3b B
  ·repeat refine nx ?_
   refine z07 ⟨j+1,by omega⟩ (by dsimp only; omega) (St.le_of ⟨⟨rfl,rfl,rfl⟩,⟨rfl,rfl,rfl⟩⟩)
  ·obtain rfl:j=z3b B:=by omega
   rw[←hpl]
   have hby:z6y (z1y l)=(List.range ((z1y l).length/8)).map fun m=>z1k (z1y l) (8*m) 8:=rfl
   generalize z1y l=BP at*
   repeat refine nx ?_
   refine z93 (fun a w h=>SR.cell_nil 70 1 901 rfl rfl rfl rfl rfl h) ?_
   refine z09 (St.le_of (l:= [(2,.c (.ptr 66 0)),(4,.c (.own 900 1 0 BP.length)),(6,.c (.ptr 70 0)),(7,lv (.int .i64 (0:Int)))]) (h:= [(66,.cells [z35 0,.lf (.v (.slice none 0 0))]),(70,.cells [z35 (z3b B:Int),.own 901 1 0 ((List.range 0).map fun m=>z1k BP (8*m) 8).length]),(900,iR BP),(901,.row (.ints .u8 ((List.range 0).map fun m=>z1k BP (8*m) 8)))]) (by refine⟨?_,?_⟩<;>(repeat' (first | exact trivial | exact rfl | refine⟨?_,?_⟩))<;>first | exact rfl |(simp; done) | skip)) ?_
   refine z0h (ι:= {i:Nat//i≤BP.length/8}) (fun i=>St.of [(2,.c (.ptr 66 0)),(4,.c (.own 900 1 0 BP.length)),(6,.c (.ptr 70 0)),(7,lv (.int .i64 (8*((i.1:Nat):Int):Int)))] [(66,.cells [z35 0,.lf (.v (.slice none 0 0))]),(70,.cells [z35 (z3b B:Int),.own 901 1 0 ((List.range i.1).map fun m=>z1k BP (8*m) 8).length]),(900,iR BP),(901,.row (.ints .u8 ((List.range i.1).map fun m=>z1k BP (8*m) 8)))]) (fun i=>BP.length/8 -i.1) (fun i=>?_) ⟨0,Nat.zero_le _⟩
   obtain⟨i,hi⟩:=i
   dsimp only
   by_cases hi2:i<BP.length/8
   ·have q6:=fun k hk=>p6 i k hi2 hk
    repeat refine nx ?_
    refine z09 (St.le_of (l:= [(2,.c (.ptr 66 0)),(4,.c (.own 900 1 0 BP.length)),(6,.c (.ptr 70 0)),(7,lv (.int .i64 (8*((i:Nat):Int):Int))),(8,lv (.int .i64 (z1k BP (8*i) 0))),(9,lv (.int .i64 ((0:Nat):Int)))]) (h:= [(66,.cells [z35 0,.lf (.v (.slice none 0 0))]),(70,.cells [z35 (z3b B:Int),.own 901 1 0 ((List.range i).map fun m=>z1k BP (8*m) 8).length]),(900,iR BP),(901,.row (.ints .u8 ((List.range i).map fun m=>z1k BP (8*m) 8)))]) (by refine⟨?_,?_⟩<;>(repeat' (first | exact trivial | exact rfl | refine⟨?_,?_⟩))<;>first | exact rfl |(simp; done) | skip)) ?_
    refine z0h (ι:= {k:Nat//k≤8}) (fun k=>St.of [(2,.c (.ptr 66 0)),(4,.c (.own 900 1 0 BP.length)),(6,.c (.ptr 70 0)),(7,lv (.int .i64 (8*((i:Nat):Int):Int))),(8,lv (.int .i64 (z1k BP (8*i) k.1))),(9,lv (.int .i64 (k.1:Int)))] [(66,.cells [z35 0,.lf (.v (.slice none 0 0))]),(70,.cells [z35 (z3b B:Int),.own 901 1 0 ((List.range i).map fun m=>z1k BP (8*m) 8).length]),(900,iR BP),(901,.row (.ints .u8 ((List.range i).map fun m=>z1k BP (8*m) 8)))]) (fun k=>8 -k.1) (fun k=>?_) ⟨0,Nat.zero_le _⟩
    obtain⟨k,hk⟩:=k
    dsimp only
    by_cases hk2:k<8
    ·obtain⟨r1,r2,r3,r4⟩:=q6 k hk2
     have hq:BP.getD (8*(i:Int)+(k:Int)).toNat 0=BP.getD (8*i+k) 0:=by
      rw[show(8*(i:Int)+(k:Int)).toNat=8*i+k by omega]
     have hst2:z1k BP (8*i) (k+1)=2*z1k BP (8*i) k+BP.getD (8*i+k) 0:=rfl
     clear hst2
     generalize hy:BP.getD (8*i+k) 0=y at*
     generalize hv:z1k BP (8*i) k=v at*
     repeat (first | refine nx ?_ | rw[hq])
     refine z07 ⟨k+1,by omega⟩ (by dsimp only; omega) (St.le_of ⟨⟨rfl,rfl,rfl,rfl,congrArg (fun x=>lv (.int .i64 x)) ?_,rfl⟩,⟨rfl,rfl,rfl,rfl⟩⟩)
     show _=2*z1k BP (8*i) k+BP.getD (8*i+k) 0
     rw[hv]
     exact congrArg (fun n=>2*v+BP.getD n 0) (show 0+(8*(i:Int)+(k:Int)).toNat=8*i+k by omega)
    ·obtain rfl:k=8:=by omega
     have hv8:0≤z1k BP (8*i) 8∧z1k BP (8*i) 8<256:=by
      obtain⟨r1,r2,r3,r4⟩:=q6 7 (by omega)
      show 0≤2*z1k BP (8*i) 7+BP.getD (8*i+7) 0∧2*z1k BP (8*i) 7+BP.getD (8*i+7) 0<256
      omega
     have hwr:=(zaD (z1k BP (8*i) 8)).2 hv8
     have hml:((List.range i).map fun m=>z1k BP (8*m) 8).length=i:=by rw[List.length_map,List.length_range]
     have hrs:((List.range (i+1)).map fun m=>z1k BP (8*m) 8)=((List.range i).map fun m=>z1k BP (8*m) 8)++ [z1k BP (8*i) 8]:=by rw[List.range_succ,List.map_append]; rfl
     generalize z1k BP (8*i) 8=v at*
     repeat refine nx ?_
     refine z07 ⟨i+1,by omega⟩ (by dsimp only; omega) (St.le_of ⟨⟨rfl,rfl,rfl,congrArg (fun x=>lv (.int .i64 x)) ?_⟩,⟨rfl,?_,rfl,?_⟩⟩)
     ·show _=8*((i+1:Nat):Int)
      omega
     ·dsimp only; rw[hrs]; simp only[List.length_append]; rfl
     ·dsimp only; rw[hrs]; rfl
   ·obtain rfl:i=BP.length/8:=by omega
    rw[←hby]
    repeat refine nx ?_
    refine zpG 901 66 ?_
    exact rt1 []
end Go.Proofs.YtaagjnlkinojcaaGreat
namespace Go.Proofs.YtaagjnlkinojcaaGreat
set_option linter.unusedSimpArgs false
set_option linter.unusedVariables false
open Go.Sx
set_option maxRecDepth 10000
abbrev ofU (l:List Int):Int:=(8 -(z0U l l.length+1)%8)%8
abbrev z71 (l:List Int):List Int:=orY l ((z0U l l.length+1+7)/8).toNat l.length
def zax:Nat→List (List Int)
 | 0=> [[]]
 | n+1=>zax n++(zax n).map fun l=>((8:Int) -(n:Int))::l
theorem z72:∀(n:Nat) (l:List Int),z30 ((8:Int) -(n:Int)) l=true→l ∈ zax n
 | 0,[],_=>by simp[zax]
 | 0,x::l,h=>by
   simp only[z30,Bool.and_eq_true,decide_eq_true_eq] at h
   omega
 | n+1,[],h=>List.mem_append_left _ (z72 n [] rfl)
 | n+1,x::l,h=>by
   by_cases hx:x=(8:Int) -(n:Int)
   ·subst hx
    simp only[z30,Bool.and_eq_true,decide_eq_true_eq] at h
    exact List.mem_append_right _ (List.mem_map.2 ⟨l,z72 n l h.2,rfl⟩)
   ·refine List.mem_append_left _ (z72 n (x::l) ?_)
    simp only[z30,Bool.and_eq_true,decide_eq_true_eq] at h ⊢
    exact⟨⟨by omega,h.1.2⟩,h.2⟩
theorem zgh {l:List Int} (h:z0Z l=true):l ∈ zax 9:=z72 9 l h
theorem zgi:(zax 9).all (fun l=>z0P (ofU l) (z71 l))=true:=by decide+kernel
theorem zdT:∀(l:List Int) (lo:Int),z30 lo l=true→z4F lo l=true
 | [],_,_=>rfl
 | x::l,lo,h=>by
   simp only[z30,Bool.and_eq_true,decide_eq_true_eq] at h
   simp only[z4F,Bool.and_eq_true,decide_eq_true_eq]
   exact⟨⟨h.1.1,by omega⟩,zdT l x h.2⟩
theorem zdU:∀(l:List Int) (lo:Int),z4F lo l=true→(∀ x ∈ l,x≤8)→z30 lo l=true
 | [],_,_,_=>rfl
 | x::l,lo,h,h8=>by
   simp only[z4F,Bool.and_eq_true,decide_eq_true_eq] at h
   simp only[z30,Bool.and_eq_true,decide_eq_true_eq]
   exact⟨⟨h.1.1,h8 x (by simp)⟩,zdU l x h.2 fun y hy=>h8 y (by simp[hy])⟩
theorem zgj:∀(l:List Int) (lo:Int),z30 lo l=true→∀ x ∈ l,x≤8
 | [],_,_,x,hx=>by simp at hx
 | y::l,lo,h,x,hx=>by
   simp only[z30,Bool.and_eq_true,decide_eq_true_eq] at h
   rcases List.mem_cons.1 hx with rfl | h2
   ·exact h.1.2
   ·exact zgj l y h.2 x h2
theorem zoU (c x:Int):0≤stV c x∧stV c x<256:=by
 unfold stV
 simp only[Go.IntKind.wrap,Go.IntKind.signed,Go.IntKind.bits]
 simp
 omega
theorem zgk (l:List Int) (m:Nat):∀ i,WfB (orY l m i)
 | 0=>fun x hx=>by
   rw[List.eq_of_mem_replicate hx]
   omega
 | i+1=>fun x hx=>by
   rw[orY,stY] at hx
   rcases List.mem_or_eq_of_mem_set hx with h | h
   ·exact zgk l m i x h
   ·rw[h]; exact zoU _ _
theorem zkx (u:Int) (l:List Int) (hl:l.length≤16000000) (hw:WfB l) (hr:z0P u l=false):Ct Tryz.prog 162 [z3t u l] [] (lv (.int .i64 0)) [] []:=by
 have h:=z4u u l hl hw
 rw[hr] at h
 refine z00 Tryz.func162 rfl rfl rfl rfl rfl (fun E hn hb=>?_)
 repeat refine nx ?_
 exact rt1 []
theorem zgl (l:List Int) (hl:l.length≤16000000):Ct Tryz.prog 119 [I64 l] [] (lv (.bool (decide (0<l.length)&&z0Z l))) [] []:=by
 cases hr:z4F (-1) l with
 | false=>
   have h:=zkG l hl hr
   have hlen:=z8K 0 [] (by simp) (fun x hx=>by simp at hx) rfl (by omega)
   have hn:z0Z l=false:=by
    rw[Bool.eq_false_iff]
    intro h2
    rw[zdT l (-1) h2] at hr
    cases hr
   rw[hn,Bool.and_false]
   refine z00 Tryz.func119 rfl rfl rfl rfl rfl (fun E hn hb=>?_)
   repeat refine nx ?_
   exact rt1 []
 | true=>
   have h:=zgB l hl hr
   have hu:=(zaB l).1 hr
   have hlr:=zba hu
   have hge:=fun i (h:i<l.length)=>zcI hu h
   have hyl:=z8v l ((z0U l l.length+1+7)/8).toNat l.length
   have hyw:=zgk l ((z0U l l.length+1+7)/8).toNat l.length
   have hok:0<l.length→(z0Z l=true↔z0U l l.length≤8):=fun h0=>by
    constructor
    ·intro h2
     unfold z0U
     rw[if_neg (by omega)]
     exact zgj l (-1) h2 _ (z1S (by omega))
    ·intro h2
     refine zdU l (-1) hr fun x hx=>?_
     obtain⟨j,hj,rfl⟩:=List.mem_iff_getElem.1 hx
     have:=hge j hj
     rw[List.getD_eq_getElem?_getD,List.getElem?_eq_getElem hj] at this
     simp at this
     omega
   have hri:z0Z l=true→z0P (ofU l) (z71 l)=true:=fun h2=>List.all_eq_true.1 zgi l (zgh h2)
   have hl0:l.length=0→z0U l l.length= -1:=fun h0=>by unfold z0U; rw[if_pos h0]
   have hlp:0<l.length→0≤z0U l l.length:=fun h0=>by have:=hge 0 h0; have:=(hu 0 h0).1; unfold z0U at this; rw[if_pos rfl] at this; omega
   cases hrs:z0P (ofU l) (z71 l) with
   | true=>
     have hlen:=z8K (ofU l) (z71 l) (by rw[hyl]; omega) hyw hrs (by unfold ofU; omega)
     rw[show 8*((z71 l).length:Int) -ofU l=z0U l l.length+1 by unfold z71 ofU; rw[hyl]; omega] at hlen
     unfold ofU z71 at*
     generalize z0U l l.length=L at*
     by_cases h0:l.length=0
     ·have:=hl0 h0
      subst this
      rw[decide_eq_false (by omega),Bool.false_and]
      refine z00 Tryz.func119 rfl rfl rfl rfl rfl (fun E hn hb=>?_)
      repeat refine nx ?_
      exact rt1 []
     ·have h1:=hok (by omega)
      have h2:=hlp (by omega)
      rw[decide_eq_true (by omega:0<l.length),Bool.true_and]
      by_cases h8:L≤8
      ·rw[h1.2 h8]
       refine z00 Tryz.func119 rfl rfl rfl rfl rfl (fun E hn hb=>?_)
       repeat refine nx ?_
       refine rt2 [] (congrArg (fun x=>lv (.bool x)) ?_) trivial
       simp
       omega
      ·rw[Bool.eq_false_iff.2 fun h=>h8 (h1.1 h)]
       refine z00 Tryz.func119 rfl rfl rfl rfl rfl (fun E hn hb=>?_)
       repeat refine nx ?_
       refine rt2 [] (congrArg (fun x=>lv (.bool x)) ?_) trivial
       simp
       omega
   | false=>
     have hlen:=zkx (ofU l) (z71 l) (by rw[hyl]; omega) hyw hrs
     have hn:(decide (0<l.length)&&z0Z l)=false:=by
      rw[Bool.eq_false_iff]
      intro h2
      rw[Bool.and_eq_true] at h2
      rw[hri h2.2] at hrs
      cases hrs
     rw[hn]
     unfold ofU z71 at*
     generalize orY l ((z0U l l.length+1+7)/8).toNat l.length=Y at*
     generalize (8 -(z0U l l.length+1)%8)%8=U at*
     refine z00 Tryz.func119 rfl rfl rfl rfl rfl (fun E hn hb=>?_)
     repeat refine nx ?_
     exact rt1 []
theorem z9D {x:List Int} (hw:WfB x) (h:(z3e x).2.2=true):z0P (z3e x).1 (z3e x).2.1=true∧WfB (z3e x).2.1∧(z3e x).2.1.length≤x.length:=by
 unfold z3e at h ⊢
 cases x with
 | nil=>simp at h
 | cons u m=>
   dsimp only at h ⊢
   by_cases hr:z0P u m=true
   ·rw[if_pos hr]
    exact⟨hr,fun z hz=>hw z (List.mem_cons_of_mem _ hz),by simp⟩
   ·rw[if_neg hr] at h
    cases h
theorem z9b (u:Int) (n:List Int):(z4P u n).1.length≤32:=by
 unfold z4P
 dsimp only
 split
 ·simp
 ·rename_i h
  have:=List.length_filter_le (z2E n) (List.range (8*n.length -u.toNat))
  simp only[List.length_range] at this
  rw[List.length_map]
  have:=fun h2=>h (.inl h2)
  omega
theorem zgm (x:List Int) (hl:x.length≤11880000) (hw:WfB x):Ct Tryz.prog 54 [.c (.ptr 0 0)] [z05 x 0] (.tup [I64 (z2b x).1,lv (.int .i64 (z2b x).2.2)]) [z05 x (z2b x).2.1] []:=by
 have hre:=z6s x 0 (Nat.zero_le _) (by omega)
 rw[List.drop_zero] at hre
 have hpa:=zh2 x (by omega) hw
 have hpr:= @z9D x hw
 unfold z2b
 generalize z3e x=S at*
 obtain⟨u,n,ok⟩:=S
 dsimp only at*
 cases ok with
 | false=>
   rw[if_neg (by simp)]
   refine z00 Tryz.func54 rfl rfl rfl rfl rfl (fun E hn hb=>?_)
   repeat refine nx ?_
   exact rtU []
 | true=>
   obtain⟨h1,h2,h3⟩:=hpr rfl
   rw[if_pos rfl]
   have hf:=ziV u n (by omega) h2 h1
   have hfl:=z9b u n
   have hrea:=zgl (z4P u n).1 (by omega)
   generalize z4P u n=F at*
   obtain⟨f,e⟩:=F
   dsimp only at*
   by_cases he:e=0
   ·subst he
    by_cases hr:(decide (0<f.length)&&z0Z f)=true
    ·rw[hr] at hrea
     rw[Bool.and_eq_true,decide_eq_true_eq] at hr
     rw[if_pos ⟨rfl,List.length_pos_iff.1 hr.1,hr.2⟩]
     refine z00 Tryz.func54 rfl rfl rfl rfl rfl (fun E hn hb=>?_)
     repeat refine nx ?_
     exact rt1 []
    ·rw[Bool.eq_false_iff.2 hr] at hrea
     rw[if_neg (fun h=>hr (by rw[Bool.and_eq_true,decide_eq_true_eq]; exact⟨List.length_pos_iff.2 h.2.1,h.2.2⟩))]
     refine z00 Tryz.func54 rfl rfl rfl rfl rfl (fun E hn hb=>?_)
     repeat refine nx ?_
     exact rtU []
   ·rw[if_neg fun h=>he h.1]
    generalize (decide (0<f.length)&&z0Z f)=B at*
    refine z00 Tryz.func54 rfl rfl rfl rfl rfl (fun E hn hb=>?_)
    repeat refine nx ?_
    exact rtU []
abbrev whC (w:WhT):Leaf:= .obj [.recs 3 (gnR w.1),z2g w.2]
abbrev wpL:Option WhT→Leaf
 | none=> .v (.pointer none)
 | some w=>whC w
def z3D (x:List Int):Option WhT×Nat×Int:=
 let r:=z0a x 0
 if r.2.2=0 then
  if isH x 0 (2,0,true)=true then(let s:=z0l [] x 0 (2,0,true) z2n; (some (s.1,[]),s.2.1,s.2.2))
  else if isH x 0 (2,1,true)=true then(let s:=z0l [] x 0 (2,1,true) z3K; (some ([],s.1),s.2.1,s.2.2))
  else(some ([],[]),0,4)
 else(none,r.2.1,r.2.2)
theorem z3n {α:Type} (z:α) (l:List Int) (p:Nat) (t:z0g) (rd:List Int→α×Nat×Int) (hp:p≤l.length):p≤(z0l z l p t rd).2.1∧(z0l z l p t rd).2.1≤l.length:=by
 have h:=z3Q l p t hp
 unfold z0l
 dsimp only
 split
 ·split
  ·split
   ·split
    ·exact h
    ·exact h
   ·exact h
  ·exact⟨Nat.le_refl _,hp⟩
 ·exact⟨Nat.le_refl _,hp⟩
theorem zky (x:List Int):(z3D x).2.1≤x.length:=by
 unfold z3D
 dsimp only
 split
 ·split
  ·exact(z3n _ _ _ _ _ (Nat.zero_le _)).2
  ·split
   ·exact(z3n _ _ _ _ _ (Nat.zero_le _)).2
   ·exact Nat.zero_le _
 ·exact(z17 x 0 (Nat.zero_le _)).2
theorem zik (l:List Int):(z2n l).2.1≤l.length:=(z4W _ _ _ _ ⟨Nat.zero_le _,zdq l⟩).2
set_option maxHeartbeats 8000000 in
theorem zil (x:List Int) (hl:x.length≤11760000) (hw:WfB x):Ct Tryz.prog 52 [.c (.ptr 0 0)] [z05 x 0] (.tup [.c (.lf (wpL (z3D x).1)),lv (.int .i64 (z3D x).2.2)]) [z05 x (z3D x).2.1] []:=by
 have hrd:=z59 x 0 (Nat.zero_le _) (by omega) hw
 have hle:=z17 x 0 (Nat.zero_le _)
 have ht0:=z1j 0 true
 have ht1:=z1j 1 true
 have hi0:=z2W x 0 (2,0,true) (Nat.zero_le _) (by omega) hw
 have hi1:=z2W x 0 (2,1,true) (Nat.zero_le _) (by omega) hw
 change Ct _ _ _ _ (lv (.bool (isH x 0 (2,0,true)))) _ _ at hi0
 change Ct _ _ _ _ (lv (.bool (isH x 0 (2,1,true)))) _ _ at hi1
 have hp0:=ziE x 0 0 true 56 z2n (Nat.zero_le _) (by omega) hw zik (fun y hy hwy=>zdL y (by omega) hwy)
 have hp1:=ziF x 0 1 true 114 z3K (Nat.zero_le _) (by omega) hw (fun y=>Nat.le_refl _) (fun y hy hwy=>ziD y (by omega) hwy)
 unfold z3D
 generalize z0a x 0=R at*
 obtain⟨⟨⟨t1,t2,t3⟩,n⟩,q,e⟩:=R
 dsimp only at*
 by_cases he:e=0
 ·subst he
  have hbk:=z24 x q 0 (Nat.zero_le _) (by omega)
  rw[if_pos rfl]
  by_cases h0:isH x 0 (2,0,true)=true
  ·rw[if_pos h0]
   rw[h0] at hi0
   generalize z0l [] x 0 (2,0,true) z2n=S at*
   obtain⟨s,q2,f⟩:=S
   dsimp only at*
   refine z00 Tryz.func52 rfl rfl rfl rfl rfl (fun E hn hb=>?_)
   repeat refine nx ?_
   refine z4i (fun a w h=>SR.cellsW 84 (cs:= [.lf (.recs 3 (gnR s)),.lf (.v (.slice none 0 0))]) [.lf (.recs 3 (gnR s)),.lf (.recs 2 [])] rfl ⟨.inr (.inl rfl),.inr (.inr ⟨rfl,.inr ⟨_,rfl⟩⟩),trivial⟩ h) ?_
   refine z4i (fun a w h=>SR.frp 2 (ls:= [.recs 3 (gnR s),.recs 2 []]) rfl rfl hb rfl rfl h) ?_
   exact rt1 []
  ·rw[if_neg h0]
   rw[Bool.eq_false_iff.2 h0] at hi0
   by_cases h1:isH x 0 (2,1,true)=true
   ·rw[if_pos h1]
    rw[h1] at hi1
    generalize z0l [] x 0 (2,1,true) z3K=S at*
    obtain⟨s,q2,f⟩:=S
    dsimp only at*
    refine z00 Tryz.func52 rfl rfl rfl rfl rfl (fun E hn hb=>?_)
    repeat refine nx ?_
    refine z4i (fun a w h=>SR.cellsW 84 (cs:= [.lf (.v (.slice none 0 0)),.lf (z2g s)]) [.lf (.recs 3 []),.lf (z2g s)] rfl ⟨.inr (.inr ⟨rfl,.inr ⟨_,rfl⟩⟩),.inr (.inl rfl),trivial⟩ h) ?_
    refine z4i (fun a w h=>SR.frp 2 (ls:= [.recs 3 [],z2g s]) rfl rfl hb rfl rfl h) ?_
    exact rt1 []
   ·rw[if_neg h1]
    rw[Bool.eq_false_iff.2 h1] at hi1
    refine z00 Tryz.func52 rfl rfl rfl rfl rfl (fun E hn hb=>?_)
    repeat refine nx ?_
    refine z4i (fun a w h=>SR.cellsW 84 (cs:= [.lf (.v (.slice none 0 0)),.lf (.v (.slice none 0 0))]) [.lf (.recs 3 []),.lf (.recs 2 [])] rfl ⟨.inr (.inr ⟨rfl,.inr ⟨_,rfl⟩⟩),.inr (.inr ⟨rfl,.inr ⟨_,rfl⟩⟩),trivial⟩ h) ?_
    refine z4i (fun a w h=>SR.frp 2 (ls:= [.recs 3 [],.recs 2 []]) rfl rfl hb rfl rfl h) ?_
    exact rt1 []
 ·rw[if_neg he]
  refine z00 Tryz.func52 rfl rfl rfl rfl rfl (fun E hn hb=>?_)
  repeat refine nx ?_
  exact rt1 []
end Go.Proofs.YtaagjnlkinojcaaGreat

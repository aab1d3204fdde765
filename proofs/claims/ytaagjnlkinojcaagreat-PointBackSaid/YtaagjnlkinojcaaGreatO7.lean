/-
  Chapter 04: an oid's contents. The conditions: rows of at most a million numbers.
-/
import Derived.Test.YtaagjnlkinojcaaGreatC7
import Derived.Test.YtaagjnlkinojcaaGreatC12
import Derived.Test.YtaagjnlkinojcaaGreatM3
import Derived.Test.YtaagjnlkinojcaaGreatSxQ
import Derived.Test.YtaagjnlkinojcaaGreatW10
namespace Go.Proofs.YtaagjnlkinojcaaGreat
set_option linter.unusedSimpArgs false
set_option linter.unusedVariables false
open Go.Sx
set_option maxRecDepth 10000
theorem zgl {l:List Int} (h:WfB l) (p:Nat):0≤l.getD p 0∧l.getD p 0<256:=by
 rw[List.getD_eq_getElem?_getD]
 cases hx:l[p]? with
 | none=>exact⟨by simp,by simp⟩
 | some x=>exact h x (List.mem_of_getElem? hx)
abbrev z4e (u:Int) (l:List Int):Av:= .agg [.lf (.v (.int .i64 u)),.lf (.ints .u8 l)]
def z14 (u:Int) (l:List Int):Bool:=if l= [] then decide (u=0) else decide (0≤u)&&decide (u≤7)&&decide (l.getD (l.length -1) 0%2^u.toNat=0)
theorem zrx:∀ k:Fin 8,∀ x:Fin 256,(IntKind.u8.wrap (BitVec.ofInt IntKind.u8.bits ((x.val:Nat):Int)&&& BitVec.ofInt IntKind.u8.bits (1*2^min (((k.val:Nat):Int).toNat) IntKind.u8.bits -1)).toNat==0)=decide (((x.val:Nat):Int)%2^(((k.val:Nat):Int).toNat)=0):=by decide+kernel
theorem zry {u x:Int} (hu:0≤u∧u≤7) (hx:0≤x∧x<256):(IntKind.u8.wrap (BitVec.ofInt IntKind.u8.bits x&&& BitVec.ofInt IntKind.u8.bits (1*2^min u.toNat IntKind.u8.bits -1)).toNat==0)=decide (x%2^u.toNat=0):=by
 obtain⟨k,rfl⟩:∃ k:Nat,u=k:=⟨u.toNat,by omega⟩
 obtain⟨y,rfl⟩:∃ y:Nat,x=y:=⟨x.toNat,by omega⟩
 exact zrx ⟨k,by omega⟩ ⟨y,by omega⟩
set_option maxHeartbeats 8000000 in
theorem z4m (u:Int) (l:List Int) (hl:l.length≤16000000) (hw:WfB l):Ct Tryz.prog 160 [z4e u l] [] (lv (.bool (z14 u l))) [] []:=by
 have hx:=zgl hw (l.length -1)
 unfold z14
 by_cases h0:l= []
 ·rw[if_pos h0]
  subst h0
  refine z00 Tryz.func160 rfl rfl rfl rfl rfl (fun E hn hb=>?_)
  repeat refine nx ?_
  refine rt2 [] (congrArg (fun x=>lv (.bool x)) ?_) trivial
  rfl
 ·rw[if_neg h0]
  have hlp:0<l.length:=by
   cases l with
   | nil=>exact absurd rfl h0
   | cons=>simp
  by_cases hu:0≤u∧u≤7
  ·have:u=0∨u=1∨u=2∨u=3∨u=4∨u=5∨u=6∨u=7:=by omega
   rcases this with rfl | rfl | rfl | rfl | rfl | rfl | rfl | rfl
   all_goals
    refine z00 Tryz.func160 rfl rfl rfl rfl rfl (fun E hn hb=>?_)
    repeat refine nx ?_
    refine rt2 [] (congrArg (fun x=>lv (.bool x)) ?_) trivial
    rw[show((l.length:Int) -1).toNat=l.length -1 by omega]
    exact zry hu hx
  ·refine z00 Tryz.func160 rfl rfl rfl rfl rfl (fun E hn hb=>?_)
   repeat refine nx ?_
   refine rt2 [] (congrArg (fun x=>lv (.bool x)) ?_) trivial
   have:¬ 0≤u∨¬ u≤7:=by omega
   rcases this with h | h
   ·rw[decide_eq_false h]; rfl
   ·rw[decide_eq_false h]; cases decide (0≤u)<;>rfl
def z4w (l:List Int):Int×List Int×Bool:=match l with
 | []=>(0,[],false)
 | u::m=>if z14 u m=true then(u,m,true) else(0,[],false)
theorem zgm (l:List Int) (hl:l.length≤16000000) (hw:WfB l):Ct Tryz.prog 116 [B8 l] [] (.tup [z4e (z4w l).1 (z4w l).2.1,lv (.int .i64 (cond (z4w l).2.2 0 6))]) [] []:=by
 cases l with
 | nil=>
   refine z00 Tryz.func116 rfl rfl rfl rfl rfl (fun E hn hb=>?_)
   repeat refine nx ?_
   refine rtU [] (hu:=?_)
   exact⟨⟨.inl rfl,.inr ⟨rfl,.inl ⟨_,rfl⟩⟩,trivial⟩,.inl rfl,trivial⟩
 | cons u m=>
   have hr:=z4m u m (by simp at hl; omega) (fun x hx=>hw x (List.mem_cons_of_mem _ hx))
   have hcl:=zbS m (by simp at hl; omega)
   have hu:=hw u (List.mem_cons_self ..)
   unfold z4w
   dsimp only
   by_cases hrs:z14 u m=true
   ·rw[if_pos hrs]
    rw[hrs] at hr
    refine z00 Tryz.func116 rfl rfl rfl rfl rfl (fun E hn hb=>?_)
    repeat refine nx ?_
    exact rt1 []
   ·rw[if_neg hrs]
    rw[Bool.not_eq_true] at hrs
    rw[hrs] at hr
    refine z00 Tryz.func116 rfl rfl rfl rfl rfl (fun E hn hb=>?_)
    repeat refine nx ?_
    refine rtU [] (hu:=?_)
    exact⟨⟨.inl rfl,.inr ⟨rfl,.inl ⟨_,rfl⟩⟩,trivial⟩,.inl rfl,trivial⟩
theorem zfe (a b:Int) (t:List Int) (ha:0≤a∧a≤2) (hb0:0≤b∧b≤2147483647) (hl:t.length≤16000000):Ct Tryz.prog 243 [I64 (a::b::t)] [] (I64 ((40*a+b)::t)) [] []:=by
 refine z00 Tryz.func243 rfl rfl rfl rfl rfl (fun E hn hb=>?_)
 repeat refine nx ?_
 exact rt1 []
set_option maxHeartbeats 4000000 in
theorem zgn (a b:List Int) (ha:a.length≤16000000) (hb':b.length≤16000000):Ct Tryz.prog 184 [I64 a,I64 b] [] (lv (.int .i64 (z0z a b))) [] []:=by
 refine z00 Tryz.func184 rfl rfl rfl rfl rfl (fun E hn hb=>?_)
 repeat (refine nst ?_)
 refine z09 (St.le_of (l:= [(0,I64 a),(1,I64 b),(5,lv (.int .i64 0))]) (h:= []) (by refine⟨?_,?_⟩<;>(repeat' (first | exact trivial | exact rfl | refine⟨?_,?_⟩))<;>first | exact rfl |(simp; done) | skip)) ?_
 refine z0k (ι:= {i:Nat//i≤16000000∧z0z (a.drop i) (b.drop i)=z0z a b}) (fun i=>St.of [(0,I64 a),(1,I64 b),(5,lv (.int .i64 (i.1:Int)))] []) (fun i=>16000001 -i.1) (fun i=>?_) ⟨0,by omega,rfl⟩
 obtain⟨i,hi,he⟩:=i
 dsimp only
 repeat (refine nst ?_)
 refine z06 rfl (by simp) (fun hc=>?_) (fun hc=>?_)
 ·simp at hc
  repeat (refine nst ?_)
  refine z2V 21 (by kernel_rfl) (by kernel_rfl) (by kernel_rfl) (by rw[hn]; rfl) rfl rfl ?_
  repeat (first | refine dp1 ?_ | refine dg1 ?_ | refine z1i ?_)
  repeat (refine nst ?_)
  have key:∀ x:List Int,i<x.length→x.drop i=x.getD i 0::x.drop (i+1):=fun x h=>by
   rw[List.drop_eq_getElem_cons h]; simp[h]
  refine z06 rfl (by simp) (fun hd=>?_) (fun hd=>?_)
  ·repeat (refine nst ?_)
   refine rt2 [] ?_ ?_
   ·have:z0z a b= -1:=by
     rw[←he]
     by_cases h1:i<a.length
     ·have h2:i<b.length∧a.getD i 0<b.getD i 0:=by
       have:¬ a.length≤i:=by omega
       simpa[this,Bool.cond_eq_ite] using hd
      rw[key a h1,key b h2.1]
      simp only[z0z,h2.2,if_true]
     ·rw[List.drop_eq_nil_of_le (by omega),key b (by omega)]; rfl
    rw[this]; rfl
   ·trivial
  ·repeat (refine nst ?_)
   have hia:i<a.length∧(i<b.length→¬ a.getD i 0<b.getD i 0):=by
    rcases Nat.lt_or_ge i a.length with h | h
    ·have:¬ a.length≤i:=by omega
     refine⟨h,fun hib=>?_⟩
     simpa[this,hib,Bool.cond_eq_ite] using hd
    ·simp[h,Bool.cond_eq_ite] at hd
   clear hd
   refine z2V 15 (by kernel_rfl) (by kernel_rfl) (by kernel_rfl) (by rw[hn]; rfl) rfl rfl ?_
   repeat (first | refine dp1 ?_ | refine dg1 ?_ | refine z1i ?_)
   repeat (refine nst ?_)
   refine z06 rfl (by simp) (fun hd=>?_) (fun hd=>?_)
   ·repeat (refine nst ?_)
    refine rt2 [] ?_ ?_
    ·have:z0z a b=1:=by
      rw[←he,key a hia.1]
      by_cases h1:i<b.length
      ·have h2:b.getD i 0<a.getD i 0:=by
        have:¬ b.length≤i:=by omega
        simpa[this,Bool.cond_eq_ite] using hd
       rw[key b h1]
       simp only[z0z,hia.2 h1,h2,if_true,if_false]
      ·rw[List.drop_eq_nil_of_le (by omega:b.length≤i)]; rfl
     rw[this]; rfl
    ·trivial
   ·repeat (refine nst ?_)
    have h1:i<b.length∧¬ b.getD i 0<a.getD i 0:=by
     rcases Nat.lt_or_ge i b.length with h | h
     ·have:¬ b.length≤i:=by omega
      refine⟨h,?_⟩
      simpa[this,Bool.cond_eq_ite] using hd
     ·simp[h,Bool.cond_eq_ite] at hd
    (refine z08 ?i1 ?i2 ?i3; (case i1=>exact⟨i+1,by omega,by rw[←he,key a hia.1,key b h1.1]; simp only[z0z,hia.2 h1.1,h1.2,if_false]⟩); (case i2=>(dsimp only; omega)); (case i3=>refine St.le_of ⟨?_,?_⟩<;>(repeat' (first | exact trivial | exact rfl | refine⟨?_,?_⟩))<;>first | exact rfl |(simp; done) | skip))
 ·repeat (refine nst ?_)
  refine rt2 [] ?_ ?_
  ·have:z0z a b=0:=by
    rw[←he,List.drop_eq_nil_of_le (by simp at hc; omega),List.drop_eq_nil_of_le (by simp at hc; omega)]; rfl
   rw[this]; rfl
  ·trivial
theorem zdV (n:Int) (h:0≤n∧n<4611686018427387904):IntKind.i64.wrap (BitVec.ofInt IntKind.i64.bits n&&& BitVec.ofInt IntKind.i64.bits 127).toNat=n%128:=by
 obtain⟨n,rfl⟩:∃ m:Nat,n=m:=⟨n.toNat,by omega⟩
 have e3:((n:Int)%128)=((n%128:Nat):Int):=by simp
 rw[e3]
 have hm:n&&& 127=n%128:=Nat.and_two_pow_sub_one_eq_mod n 7
 have hlt:n%128<128:=Nat.mod_lt _ (by decide)
 rw[←hm] at hlt ⊢
 have e1:(BitVec.ofInt IntKind.i64.bits (n:Int)).toNat=n:=by
  rw[BitVec.toNat_ofInt]; simp only[IntKind.bits]; omega
 have e2:(BitVec.ofInt IntKind.i64.bits (127:Int)).toNat=127:=by decide
 rw[BitVec.toNat_and,e1,e2]
 generalize n&&& 127=z at*
 simp only[IntKind.wrap,IntKind.signed,IntKind.bits]
 simp
 omega
theorem zrz:∀ x:Nat,x<128→IntKind.u8.wrap (BitVec.ofInt IntKind.u8.bits (x:Int)||| BitVec.ofInt IntKind.u8.bits 128).toNat=(x:Int)+128:=by decide+kernel
def z3L:Nat→Nat→List Int
 | 0,_=> []
 | k+1,n=>if n=0 then [] else(((n%128:Nat):Int)+128)::z3L k (n/128)
def z19 (n:Nat):List Int:=(((n%128:Nat):Int)::z3L 5 (n/128)).reverse
theorem zcc:∀(k n:Nat),(z3L k n).length≤k
 | 0,n=>by simp[z3L]
 | k+1,n=>by
   have:=zcc k (n/128)
   unfold z3L
   split<;>simp<;>omega
theorem z5M (n:Nat):(z19 n).length≤6:=by
 have:=zcc 5 (n/128)
 simp[z19]; omega
structure PS where
 n:Nat
 k:Nat
 d:List Int
theorem zoZ (acc:List Int) (n:Nat) (hn0:n<4294967296) (hl:acc.length≤16000000):
  CtM Tryz.prog 242 [lv (.int .i64 (n:Int)),.c (.ptr 0 0)] [.cells [.own 1 1 0 acc.length],.row (.ints .u8 acc)] (.tup [])
   [.cells [.own 2 1 0 (acc.length+(z19 n).length)],.gone] [.row (.ints .u8 (acc++z19 n))]:=by
 have ha:=zdV (n:Int) (by omega)
 obtain⟨A,hA⟩:∃ A,z19 n=A:=⟨_,rfl⟩
 have hAl:A.length≤6:=by rw[←hA]; exact z5M n
 rw[hA]
 refine z17 Tryz.func242 rfl rfl rfl rfl rfl (fun E hn hb=>?_)
 repeat (refine nst ?_)
 have e1:(n:Int)%128=((n%128:Nat):Int):=by omega
 rw[ha,e1]
 refine z1X rfl rfl rfl (by rw[hn]; rfl) (z0n Tryz.underlying28 rfl rfl) (z2R) (by exact vcs) ⟨by decide,rfl⟩ ?_
 repeat (refine nst ?_)
 have e9:(n:Int)/2^min (Int.toNat 7) IntKind.i64.bits=((n/128:Nat):Int):=by
  have:min (Int.toNat 7) IntKind.i64.bits=7:=by decide
  rw[this]
  omega
 rw[e9]
 refine z09 (St.le_of (l:= [(0,lv (.int .i64 ((n/128:Nat):Int))),(1,.c (.ptr 0 0)),(3,.c (.own 71 1 0 [((n%128:Nat):Int)].length))]) (h:= [(0,.cells [.own 1 1 0 acc.length]),(1,.row (.ints .u8 acc)),(71,.row (.ints .u8 [((n%128:Nat):Int)]))]) (by refine⟨?_,?_⟩<;>(repeat' (first | exact trivial | exact rfl | refine⟨?_,?_⟩))<;>first | exact rfl |(simp; done) | skip)) ?_
 refine z0k (ι:= {s:PS//(s.d++z3L s.k s.n).reverse=A∧s.n<128^s.k∧s.n<4294967296∧s.d.length≤6}) (fun s=>St.of [(0,lv (.int .i64 (s.1.n:Int))),(1,.c (.ptr 0 0)),(3,.c (.own 71 1 0 s.1.d.length))] [(0,.cells [.own 1 1 0 acc.length]),(1,.row (.ints .u8 acc)),(71,.row (.ints .u8 s.1.d))]) (fun s=>s.1.k) (fun s=>?_) ⟨⟨n/128,5,[((n%128:Nat):Int)]⟩,hA,by dsimp only; omega,by dsimp only; omega,by simp⟩
 obtain⟨⟨n,k,d⟩,h1,h2,h3,h4⟩:=s
 dsimp only at h1 h2 h3 h4 ⊢
 clear ha e1 e9 hn0 hA
 repeat (refine nst ?_)
 refine z06 rfl (by simp) (fun hc=>?_) (fun hc=>?_)
 ·have hnp:0<n:=by simpa using hc
  obtain⟨k,rfl⟩:∃ k',k=k'+1:=by
   cases k with
   | zero=>simp at h2; omega
   | succ k=>exact⟨k,rfl⟩
  unfold z3L at h1
  rw[if_neg (by omega)] at h1
  have ha:=zdV (n:Int) (by omega)
  have e1:(n:Int)%128=((n%128:Nat):Int):=by omega
  have ho:=zrz (n%128) (Nat.mod_lt _ (by decide))
  repeat (refine nst ?_)
  rw[ha,e1]
  repeat (refine nst ?_)
  rw[ho]
  have h5:((d++ [((n%128:Nat):Int)+128])++z3L k (n/128)).reverse=A:=by rw[List.append_assoc]; exact h1
  have h6:(d++ [((n%128:Nat):Int)+128]).length≤6:=by
   have:=congrArg List.length h5
   simp at this ⊢
   omega
  have h7:n/128<128^k:=by
   rw[Nat.pow_succ] at h2
   exact Nat.div_lt_of_lt_mul (by rw[Nat.mul_comm]; exact h2)
  have e9:(n:Int)/2^min (Int.toNat 7) IntKind.i64.bits=((n/128:Nat):Int):=by
   have:min (Int.toNat 7) IntKind.i64.bits=7:=by decide
   rw[this]
   omega
  refine z1X rfl rfl rfl (by rw[hn]; rfl) (z0n Tryz.underlying28 rfl rfl) (z2R) (by exact vcs) ⟨by decide,rfl⟩ ?_
  repeat (refine nst ?_)
  refine z2I rfl rfl rfl rfl rfl rfl (by rw[hn]; rfl) (z0n Tryz.underlying28 rfl rfl) rfl rfl rfl rfl (by exact vcs) (by first | rfl |(simp; done) |(simp; omega)) ⟨by first |(simp; done) |(simp; omega) |(simp at*; omega),by decide⟩ ?_
  repeat (refine nst ?_)
  rw[e9]
  (refine z08 ?i1 ?i2 ?i3; (case i1=>exact⟨⟨n/128,k,d++ [((n%128:Nat):Int)+128]⟩,h5,h7,by dsimp only; omega,h6⟩); (case i2=>(dsimp only; omega)); (case i3=>refine St.le_of ⟨?_,?_⟩<;>(repeat' (first | exact trivial | exact rfl | refine⟨?_,?_⟩))<;>first | exact rfl |(simp; done) | skip))
 ·have hn0:n=0:=by simp at hc; omega
  subst hn0
  have e1:z3L k 0= []:=by cases k<;>rfl
  rw[e1,List.append_nil] at h1
  have hrv:=z6Q d (by omega)
  have hdl:d.length=A.length:=by rw[←h1]; simp
  rw[h1,hdl] at hrv
  rw[hdl]
  repeat (refine nst ?_)
  refine z0w [71] hrv rfl rfl (by rw[hn]; rfl) rfl rfl (by trivial) ⟨rfl,rfl,(by simp[z0b]),rfl⟩ ?_
  repeat (refine nst ?_)
  refine z6a 95 rfl rfl rfl rfl rfl (by rw[hn]; rfl) (z0n Tryz.underlying28 rfl rfl) rfl rfl rfl rfl ?_ (by simp) ⟨by simp; omega,by decide⟩ ?_ ?_
  ·simp[z03]
  ·repeat (refine nst ?_)
   refine z0m rfl rfl rfl rfl rfl (by exact vcs) rfl rfl rfl (by rw[z3l]; rfl) (by rw[z4R]; rfl) rfl rfl ?_
   rw[List.take_length,Nat.zero_add acc.length,List.take_length]
   repeat (refine nst ?_)
   exact z5Z [1] rfl (by trivial) ⟨rfl,⟨.inr rfl,.inl rfl⟩,rfl,rfl⟩ hb rfl
  ·repeat (refine nst ?_)
   refine z0m rfl rfl rfl rfl rfl (by exact vcs) rfl rfl rfl (by rw[z3l]; rfl) (by rw[z4R]; rfl) rfl rfl ?_
   rw[List.take_length,Nat.zero_add acc.length,List.take_length,List.drop_zero]
   repeat (refine nst ?_)
   exact z5Z [95] rfl (by trivial) ⟨rfl,⟨.inr rfl,.inl rfl⟩,rfl,rfl⟩ hb rfl
def z0v (l:List Int):List Int:=l.flatMap fun x=>z19 x.toNat
def z0Y:List Int→List Int
 | a::b::t=>(40*a+b)::t
 | _=> []
def z8p (o:List Int):Av:=if z0W o then .tup [B8 (z0v (z0Y o)),lv (.int .i64 0)] else .tup [B8 [],lv (.int .i64 1)]
theorem z69:∀ l:List Int,(z0v l).length≤6*l.length
 | []=>by simp[z0v]
 | x::l=>by
   have:=z69 l
   have:=z5M x.toNat
   simp[z0v] at*
   omega
theorem z9x {l:List Int} {i:Nat} (h:i<l.length):z0v (l.take (i+1))=z0v (l.take i)++z19 (l.getD i 0).toNat:=by
 rw[List.take_add_one,List.getElem?_eq_getElem h,List.getD_eq_getElem?_getD,List.getElem?_eq_getElem h]
 simp only[z0v,List.flatMap_append,Option.toList_some,List.flatMap_singleton,Option.getD_some]
theorem z3W {o:List Int} (h:z0W o=true):∃ a b t,o=a::b::t∧0≤a∧a≤2∧0≤b∧b≤2147483567∧t.length≤30∧(∀ x ∈ t,0≤x∧x≤2147483647)∧(a<2→b<40):=by
 match o,h with
 | a::b::t,h=>
 rw[z1O] at h
 by_cases h30:30<t.length
 ·rw[if_pos h30] at h; cases h
 rw[if_neg h30] at h
 by_cases ha:(a::b::t).all inR=false
 ·rw[if_pos ha] at h; cases h
 rw[if_neg ha] at h
 have ha:∀ x ∈ a::b::t,inR x=true:=List.all_eq_true.1 (by simpa using ha)
 have hx:∀ x ∈ a::b::t,0≤x∧x≤2147483647:=fun x hx=>by
  have:=ha x hx
  simp[inR] at this
  exact this
 have h1:=hx a (by simp)
 have h2:=hx b (by simp)
 refine⟨a,b,t,rfl,h1.1,?_,h2.1,?_,by omega,fun x hm=>hx x (by simp[hm]),?_⟩
 ·by_cases e:a=0∨a=1
  ·omega
  ·rw[if_neg e] at h
   by_cases e2:a=2
   ·omega
   ·rw[if_neg e2] at h; cases h
 ·by_cases e:a=0∨a=1
  ·rw[if_pos e] at h; simp at h; omega
  ·rw[if_neg e] at h
   by_cases e2:a=2
   ·rw[if_pos e2] at h; simpa using h
   ·rw[if_neg e2] at h; cases h
 ·intro h3
  rw[if_pos (by omega)] at h
  simpa using h
theorem zio (o:List Int) (hl:o.length≤16000000):Ct Tryz.prog 236 [I64 o] [] (z8p o) [] []:=by
 by_cases hr:z0W o=true
 ·obtain⟨a,b,t,rfl,ha0,ha2,hb0,hb1,ht,hx,_⟩:=z3W hr
  have hR:z8p (a::b::t)= .tup [B8 (z0v ((40*a+b)::t)),lv (.int .i64 0)]:=by rw[z8p,if_pos hr]; rfl
  rw[hR]
  have h1:=zbb (a::b::t) hl
  rw[hr] at h1
  have h2:=zfe a b t ⟨ha0,ha2⟩ ⟨hb0,by omega⟩ (by omega)
  obtain⟨N,hN⟩:∃ N,(40*a+b)::t=N:=⟨_,rfl⟩
  have hNl:N.length≤31:=by rw[←hN]; simp; omega
  have hNx:∀ x ∈ N,0≤x∧x≤2147483647:=by
   rw[←hN]
   intro x hm
   rcases List.mem_cons.1 hm with rfl | hm
   ·omega
   ·exact hx x hm
  rw[hN] at h2 ⊢
  refine z00 Tryz.func236 rfl rfl rfl rfl rfl (fun E hn hb=>?_)
  repeat (refine nst ?_)
  refine z1C h1 rfl rfl rfl (by rw[hn]; rfl) rfl rfl (by exact vcs) rfl rfl rfl ?_
  repeat (refine nst ?_)
  refine z06 rfl (by simp) (fun hc=>?_) (fun hc=>?_)
  ·simp at hc
  repeat (refine nst ?_)
  refine z0E rfl rfl rfl (by rw[hn]; rfl) rfl zbR ?_
  repeat (refine nst ?_)
  refine z4x (fun a w h=>SR.cell_nil (cs:= [.lf (.v (.slice none 0 0))]) (cs':= [.own 900 1 0 0]) 68 0 900 rfl rfl rfl rfl rfl h) ?_
  refine z1C h2 rfl rfl rfl (by rw[hn]; rfl) rfl rfl (by exact vcs) rfl rfl rfl ?_
  repeat (refine nst ?_)
  refine z09 (St.le_of (l:= [(4,.c (.ptr 68 0)),(5,.c (.fn (.func 242) [] [.ptr 68 0])),(13,I64 N),(14,lv (.int .i64 (N.length:Int))),(15,lv (.int .i64 ((0:Nat):Int)))]) (h:= [(68,.cells [.own 900 1 0 ([]:List Int).length]),(900,.row (.ints .u8 []))]) (by refine⟨?_,?_⟩<;>(repeat' (first | exact trivial | exact rfl | refine⟨?_,?_⟩))<;>first | exact rfl |(simp; done) | skip)) ?_
  refine z0k (ι:= {s:Nat×List Int//s.1≤N.length∧s.2=z0v (N.take s.1)}) (fun s=>St.of [(4,.c (.ptr 68 0)),(5,.c (.fn (.func 242) [] [.ptr 68 0])),(13,I64 N),(14,lv (.int .i64 (N.length:Int))),(15,lv (.int .i64 (s.1.1:Int)))] [(68,.cells [.own 900 1 0 s.1.2.length]),(900,.row (.ints .u8 s.1.2))]) (fun s=>N.length -s.1.1) (fun s=>?_) ⟨(0,[]),by dsimp only; omega,rfl⟩
  obtain⟨⟨i,acc⟩,hi,he⟩:=s
  dsimp only at hi he ⊢
  repeat (refine nst ?_)
  refine z06 rfl (by simp) (fun hc=>?_) (fun hc=>?_)
  ·have hi2:i<N.length:=by simpa using hc
   have hal:acc.length≤1000:=by
    have:=z69 (N.take i)
    rw[he]
    simp at this
    omega
   have hxi:N.getD i 0 ∈ N:=by rw[List.getD_eq_getElem?_getD,List.getElem?_eq_getElem hi2]; exact List.getElem_mem hi2
   have hxb:=hNx _ hxi
   have hnext:=z9x hi2
   rw[←he] at hnext
   generalize hX:N.getD i 0=X at*
   obtain⟨x,rfl⟩:∃ x:Nat,X=x:=⟨X.toNat,by omega⟩
   rw[Int.toNat_natCast] at hnext
   have hput:=zoZ acc x (by omega) (by omega)
   have e8:acc.length+(z19 x).length=(acc++z19 x).length:=by simp
   rw[e8] at hput
   repeat (refine nst ?_)
   rw[show N.getD (Int.toNat (i:Int)) 0=(x:Int) from hX]
   repeat (refine nst ?_)
   refine z2D [68,900] hput rfl rfl (by rw[hn]; rfl) rfl rfl (by trivial) ⟨rfl,⟨rfl,rfl⟩,(by simp[z0b]),rfl⟩ ?_
   repeat (refine nst ?_)
   refine z41 (fun a w h=>SR.mv 85 900 rfl rfl rfl rfl rfl h) ?_
   refine z08 ⟨(i+1,acc++z19 x),by dsimp only; omega,hnext.symm⟩ (by dsimp only; omega) (St.le_of ⟨⟨rfl,rfl,rfl,rfl,rfl⟩,⟨rfl,rfl⟩⟩)
  ·have hi2:i=N.length:=by simp at hc; omega
   subst hi2
   rw[List.take_length] at he
   subst he
   repeat (refine nst ?_)
   refine zcD 900 [(2,B8 (z0v N))] rfl hb ⟨⟨rfl,rfl,rfl,by simp,by simp⟩,rfl⟩ ?_
   exact rt1 []
 ·have hr':z0W o=false:=by simpa using hr
  have hR:z8p o= .tup [B8 [],lv (.int .i64 1)]:=by rw[z8p,if_neg hr]
  rw[hR]
  have h1:=zbb o hl
  rw[hr'] at h1
  refine z00 Tryz.func236 rfl rfl rfl rfl rfl (fun E hn hb=>?_)
  repeat (refine nst ?_)
  refine z1C h1 rfl rfl rfl (by rw[hn]; rfl) rfl rfl (by exact vcs) rfl rfl rfl ?_
  repeat (refine nst ?_)
  refine z06 rfl (by simp) (fun hc=>?_) (fun hc=>?_)
  ·repeat (refine nst ?_)
   refine zcG [] rfl (by simp) (r':= .tup [B8 [],lv (.int .i64 1)]) ⟨.inr ⟨rfl,.inl ⟨_,rfl⟩⟩,.inl rfl,trivial⟩ ⟨rfl,trivial,trivial,rfl⟩ hb rfl trivial
  ·simp at hc
end Go.Proofs.YtaagjnlkinojcaaGreat

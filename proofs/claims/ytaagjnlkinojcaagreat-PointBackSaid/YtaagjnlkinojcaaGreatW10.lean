/-
  A row turned about, in place. The conditions: rows of at most a million bytes.
-/
import Derived.Test.YtaagjnlkinojcaaGreatTy
import Derived.Test.YtaagjnlkinojcaaGreatSxQ
namespace Go.Proofs.YtaagjnlkinojcaaGreat
set_option linter.unusedSimpArgs false
set_option linter.unusedVariables false
open Go.Sx
set_option maxRecDepth 10000
abbrev zxs (l:List Int) (p:Nat):List Leaf:= [.ints .u8 l,.v (.int .i64 (p:Int))]
abbrev z91 (l:List Int) (p:Nat):Av:= .c (.lf (.obj (zxs l p)))
abbrev z04 (l:List Int) (p:Nat):Blk:= .cells [.lf (.ints .u8 l),.lf (.v (.int .i64 (p:Int)))]
theorem zdT (l:List Int) (p:Nat):Ct Tryz.prog 157 [z91 l p] [] (lv (.int .i64 (l.length:Int))) [] []:=by
 refine z00 Tryz.func157 rfl rfl rfl rfl rfl (fun E hn hb=>?_)
 repeat (refine nst ?_)
 exact rt1 []
theorem z1z (l:List Int) (p:Nat):Ct Tryz.prog 20 [z91 l p] [] (lv (.int .i64 (p:Int))) [] []:=by
 refine z00 Tryz.func20 rfl rfl rfl rfl rfl (fun E hn hb=>?_)
 repeat (refine nst ?_)
 refine z1b (z0L (z4f (neg:=false) rfl rfl rfl rfl (by exact vcs)) rfl) (by rw[hn]; rfl) ?_
 repeat (refine nst ?_)
 refine z06 rfl (by simp) (fun h1=>?_) (fun h1=>?_)
 ·simp at h1
 repeat (refine nst ?_)
 exact rt1 []
theorem z0S (l:List Int) (p:Nat) (hp:p≤l.length) (hl:l.length≤9223372036854775807):Ct Tryz.prog 107 [z91 l p] [] (lv (.int .i64 ((l.length:Int) -(p:Int)))) [] []:=by
 have e:IntKind.i64.wrap ((l.length:Int) -(p:Int))=(l.length:Int) -(p:Int):=by simp[IntKind.wrap,IntKind.signed,IntKind.bits]; omega
 have hs:=zdT l p
 refine z00 Tryz.func107 rfl rfl rfl rfl rfl (fun E hn hb=>?_)
 repeat refine nx ?_
 exact rt1 []
def z5H (l:List Int) (p:Nat) (n:Int):Int:=if n<0 then 1 else if(l.length:Int) -p<n then 3 else 0
theorem zg9 (l:List Int) (p:Nat) (n:Int) (hp:p≤l.length) (hl:l.length≤9223372036854775807):Ct Tryz.prog 206 [z91 l p,lv (.int .i64 n)] [] (lv (.int .i64 (z5H l p n))) [] []:=by
 refine z00 Tryz.func206 rfl rfl rfl rfl rfl (fun E hn hb=>?_)
 repeat (refine nst ?_)
 refine z1b (z0L (z4f (neg:=false) rfl rfl rfl rfl (by exact vcs)) rfl) (by rw[hn]; rfl) ?_
 repeat (refine nst ?_)
 refine z06 rfl (by simp) (fun h1=>?_) (fun h1=>?_)
 ·simp at h1
 repeat (refine nst ?_)
 refine z06 rfl (by simp) (fun h2=>?_) (fun h2=>?_)
 ·have e:z5H l p n=1:=by
   have:n<0:=by simpa using h2
   rw[z5H,if_pos this]
  rw[e]
  repeat (refine nst ?_)
  exact rt1 []
 have n2:¬ n<0:=by simpa using h2
 repeat (refine nst ?_)
 refine z1C (z0S l p hp hl) rfl rfl rfl (by rw[hn]; rfl) rfl rfl (by exact vcs) rfl rfl rfl ?_
 repeat (refine nst ?_)
 refine z06 rfl (by simp) (fun h3=>?_) (fun h3=>?_)
 ·have e:z5H l p n=3:=by
   have:(l.length:Int) -p<n:=by simpa using h3
   rw[z5H,if_neg n2,if_pos this]
  rw[e]
  repeat (refine nst ?_)
  exact rt1 []
 ·have e:z5H l p n=0:=by
   have:¬ (l.length:Int) -p<n:=by simpa using h3
   rw[z5H,if_neg n2,if_neg this]
  rw[e]
  repeat (refine nst ?_)
  exact rt1 []
theorem zkm (l:List Int) (p:Nat) (hp:p<l.length) (hl:l.length≤9223372036854775807):Ct Tryz.prog 221 [z91 l p] [] (.tup [lv (.int .u8 (l.getD p 0)),lv (.int .i64 0)]) [] []:=by
 refine z00 Tryz.func221 rfl rfl rfl rfl rfl (fun E hn hb=>?_)
 repeat (refine nst ?_)
 refine z1b (z0L (z4f (neg:=false) rfl rfl rfl rfl (by exact vcs)) rfl) (by rw[hn]; rfl) ?_
 repeat (refine nst ?_)
 refine z06 rfl (by simp) (fun h1=>?_) (fun h1=>?_)
 ·simp at h1
 repeat (refine nst ?_)
 refine z1C (z0S l p (by omega) hl) rfl rfl rfl (by rw[hn]; rfl) rfl rfl (by exact vcs) rfl rfl rfl ?_
 repeat (refine nst ?_)
 refine z06 rfl (by simp) (fun h3=>?_) (fun h3=>?_)
 ·simp at h3; omega
 repeat (refine nst ?_)
 refine z2V 13 (by kernel_rfl) (by kernel_rfl) (by kernel_rfl) (by rw[hn]; rfl) rfl rfl ?_
 repeat (first | refine dp1 ?_ | refine dg1 ?_ | refine z1i ?_)
 repeat (refine nst ?_)
 refine rt2 [] ?_ ?_
 ·show Av.tup [lv (.int .u8 (l.getD (p:Int).toNat 0)),lv (.int .i64 0)]=_
  rw[Int.toNat_natCast]
  rfl
 ·trivial
theorem zi8 (l:List Int) (hl:l.length≤9223372036854775807):Ct Tryz.prog 221 [z91 l l.length] [] (.tup [lv (.int .u8 0),lv (.int .i64 3)]) [] []:=by
 refine z00 Tryz.func221 rfl rfl rfl rfl rfl (fun E hn hb=>?_)
 repeat (refine nst ?_)
 refine z1b (z0L (z4f (neg:=false) rfl rfl rfl rfl (by exact vcs)) rfl) (by rw[hn]; rfl) ?_
 repeat (refine nst ?_)
 refine z06 rfl (by simp) (fun h1=>?_) (fun h1=>?_)
 ·simp at h1
 repeat (refine nst ?_)
 refine z1C (z0S l l.length (by omega) hl) rfl rfl rfl (by rw[hn]; rfl) rfl rfl (by exact vcs) rfl rfl rfl ?_
 repeat (refine nst ?_)
 refine z06 rfl (by simp) (fun h3=>?_) (fun h3=>?_)
 ·repeat (refine nst ?_)
  exact rt1 []
 ·simp at h3
theorem zga (l:List Int) (p a n:Nat) (h:a+n≤l.length) (hl:l.length≤16000000):Ct Tryz.prog 161 [z91 l p,lv (.int .i64 (a:Int)),lv (.int .i64 ((a:Int)+(n:Int)))] [] (.c (.own 0 1 0 n)) [] [.row (.ints .u8 ((l.drop a).take n))]:=by
 have e:IntKind.i64.wrap (((a:Int)+(n:Int)) -(a:Int))=(n:Int):=by simp[IntKind.wrap,IntKind.signed,IntKind.bits]; omega
 have e2:((a:Int)+(n:Int)) -(a:Int)=(n:Int):=by omega
 refine z00 Tryz.func161 rfl rfl rfl rfl rfl (fun E hn hb=>?_)
 repeat (refine nst ?_)
 rw[e2]
 refine zau (by_:=1) rfl rfl rfl (by rw[hn]; rfl) (z0n Tryz.underlying28 rfl rfl) rfl rfl rfl (by exact vcs) n (by first | rfl |(simp; done) | omega) (by first |(simp; done) | omega |(simp at*; omega)) ?_
 repeat (refine nst ?_)
 have e3:(List.take ((a:Int)+(n:Int)).toNat l).drop (a:Int).toNat=(l.drop a).take n:=by
  rw[show((a:Int)+(n:Int)).toNat=a+n by omega,Int.toNat_natCast,List.drop_take,Nat.add_sub_cancel_left]
 rw[e3]
 have hx:((l.drop a).take n).length=n:=by simp; omega
 generalize (l.drop a).take n=x at*
 refine zed rfl rfl rfl rfl rfl rfl (by rw[hn]; rfl) (z0n Tryz.underlying28 rfl rfl) rfl rfl rfl (by exact vcs) (by first |(simp; done) |(simp; omega) |(simp at*; omega)) ?_
 repeat (refine nst ?_)
 refine rt2 [75] ?_ ?_
 ·rfl
 ·have e4:List.take n x=x:=List.take_of_length_le (by omega)
  have e5:List.take 0 (List.replicate n (0:Int))++List.take n x++List.drop (0+(List.take n x).length) (List.replicate n (0:Int))=x:=by
   rw[e4]; simp; omega
  show Blk.row (.ints .u8 (List.take 0 (List.replicate n (0:Int))++List.take n x++List.drop (0+(List.take n x).length) (List.replicate n (0:Int))))=_
  rw[e5]
  rfl
abbrev B8 (l:List Int):Av:= .c (.lf (.ints .u8 l))
theorem zgb (l:List Int) (hl:l.length≤16000000):Ct Tryz.prog 136 [B8 l] [] (.c (.own 0 1 0 l.length)) [] [.row (.ints .u8 l)]:=by
 refine z00 Tryz.func136 rfl rfl rfl rfl rfl (fun E hn hb=>?_)
 repeat (refine nst ?_)
 refine z9V (neg:=false) rfl rfl (by rw[hn]; rfl) Tryz.underlying28 rfl (by simp) (by simp[szD]) (fun b hbl=>?_)
 simp[z0f] at hbl
 repeat (refine nst ?_)
 refine z06 rfl (by simp) (fun hc=>?_) (fun hc=>?_)
 ·have:=hbl hc
  subst this
  repeat (refine nst ?_)
  refine z7W 2 64 1 (.ints .u8 []) rfl rfl (.inl rfl) ?_
  exact zfd [64] rfl trivial ⟨rfl,trivial,rfl,rfl⟩ hb rfl trivial
 ·repeat (refine nst ?_)
  refine z1X rfl rfl rfl (by rw[hn]; rfl) (z0n Tryz.underlying28 rfl rfl) (z2R) (by exact vcs) ⟨by decide,rfl⟩ ?_
  repeat (refine nst ?_)
  refine z2I rfl rfl rfl rfl rfl rfl (by rw[hn]; rfl) (z0n Tryz.underlying28 rfl rfl) rfl rfl rfl rfl (by exact vcs) (by first | rfl |(simp; done) |(simp; omega)) ⟨by first |(simp; done) |(simp; omega) |(simp at*; omega),by decide⟩ ?_
  repeat (refine nst ?_)
  exact zfd [69] rfl trivial ⟨rfl,trivial,rfl,rfl⟩ hb rfl trivial
theorem zbS (l:List Int) (hl:l.length≤16000000):Ct Tryz.prog 136 [B8 l] [] (B8 l) [] []:=
 (zgb l hl).freeze ⟨rfl,rfl,rfl,by simp,by simp⟩ rfl
def z0z:List Int→List Int→Int
 | [],[]=>0
 | [],_::_=> -1
 | _::_,[]=>1
 | x::a,y::b=>if x<y then -1 else if y<x then 1 else z0z a b
set_option maxHeartbeats 4000000 in
theorem z9u (a b:List Int) (ha:a.length≤16000000) (hb':b.length≤16000000):Ct Tryz.prog 92 [B8 a,B8 b] [] (lv (.int .i64 (z0z a b))) [] []:=by
 refine z00 Tryz.func92 rfl rfl rfl rfl rfl (fun E hn hb=>?_)
 repeat (refine nst ?_)
 refine z09 (St.le_of (l:= [(0,B8 a),(1,B8 b),(5,lv (.int .i64 0))]) (h:= []) (by refine⟨?_,?_⟩<;>(repeat' (first | exact trivial | exact rfl | refine⟨?_,?_⟩))<;>first | exact rfl |(simp; done) | skip)) ?_
 refine z0k (ι:= {i:Nat//i≤16000000∧z0z (a.drop i) (b.drop i)=z0z a b}) (fun i=>St.of [(0,B8 a),(1,B8 b),(5,lv (.int .i64 (i.1:Int)))] []) (fun i=>16000001 -i.1) (fun i=>?_) ⟨0,by omega,rfl⟩
 obtain⟨i,hi,he⟩:=i
 dsimp only
 repeat (refine nst ?_)
 refine z06 rfl (by simp) (fun hc=>?_) (fun hc=>?_)
 ·simp at hc
  repeat (refine nst ?_)
  refine z2V 21 (by kernel_rfl) (by kernel_rfl) (by kernel_rfl) (by rw[hn]; rfl) rfl rfl ?_
  repeat (first | refine dp1 ?_ | refine dg1 ?_ | refine z1i ?_)
  repeat (refine nst ?_)
  have key:∀ x:List Int,i<x.length→x.drop i=x.getD i 0::x.drop (i+1):=fun x h=>by
   rw[List.drop_eq_getElem_cons h]; simp[h]
  refine z06 rfl (by simp) (fun hd=>?_) (fun hd=>?_)
  ·repeat (refine nst ?_)
   refine rt2 [] ?_ ?_
   ·have:z0z a b= -1:=by
     rw[←he]
     by_cases h1:i<a.length
     ·have h2:i<b.length∧a.getD i 0<b.getD i 0:=by
       have:¬ a.length≤i:=by omega
       simpa[this,Bool.cond_eq_ite] using hd
      rw[key a h1,key b h2.1]
      simp only[z0z,h2.2,if_true]
     ·rw[List.drop_eq_nil_of_le (by omega),key b (by omega)]; rfl
    rw[this]; rfl
   ·trivial
  ·repeat (refine nst ?_)
   have hia:i<a.length∧(i<b.length→¬ a.getD i 0<b.getD i 0):=by
    rcases Nat.lt_or_ge i a.length with h | h
    ·have:¬ a.length≤i:=by omega
     refine⟨h,fun hib=>?_⟩
     simpa[this,hib,Bool.cond_eq_ite] using hd
    ·simp[h,Bool.cond_eq_ite] at hd
   clear hd
   refine z2V 15 (by kernel_rfl) (by kernel_rfl) (by kernel_rfl) (by rw[hn]; rfl) rfl rfl ?_
   repeat (first | refine dp1 ?_ | refine dg1 ?_ | refine z1i ?_)
   repeat (refine nst ?_)
   refine z06 rfl (by simp) (fun hd=>?_) (fun hd=>?_)
   ·repeat (refine nst ?_)
    refine rt2 [] ?_ ?_
    ·have:z0z a b=1:=by
      rw[←he,key a hia.1]
      by_cases h1:i<b.length
      ·have h2:b.getD i 0<a.getD i 0:=by
        have:¬ b.length≤i:=by omega
        simpa[this,Bool.cond_eq_ite] using hd
       rw[key b h1]
       simp only[z0z,hia.2 h1,h2,if_true,if_false]
      ·rw[List.drop_eq_nil_of_le (by omega:b.length≤i)]; rfl
     rw[this]; rfl
    ·trivial
   ·repeat (refine nst ?_)
    have h1:i<b.length∧¬ b.getD i 0<a.getD i 0:=by
     rcases Nat.lt_or_ge i b.length with h | h
     ·have:¬ b.length≤i:=by omega
      refine⟨h,?_⟩
      simpa[this,Bool.cond_eq_ite] using hd
     ·simp[h,Bool.cond_eq_ite] at hd
    (refine z08 ?i1 ?i2 ?i3; (case i1=>exact⟨i+1,by omega,by rw[←he,key a hia.1,key b h1.1]; simp only[z0z,hia.2 h1.1,h1.2,if_false]⟩); (case i2=>(dsimp only; omega)); (case i3=>refine St.le_of ⟨?_,?_⟩<;>(repeat' (first | exact trivial | exact rfl | refine⟨?_,?_⟩))<;>first | exact rfl |(simp; done) | skip))
 ·repeat (refine nst ?_)
  refine rt2 [] ?_ ?_
  ·have:z0z a b=0:=by
    rw[←he,List.drop_eq_nil_of_le (by simp at hc; omega),List.drop_eq_nil_of_le (by simp at hc; omega)]; rfl
   rw[this]; rfl
  ·trivial
theorem zaf:∀ a b:List Int,z0z a b=0↔a=b
 | [],[]=>by simp[z0z]
 | [],y::b=>by simp[z0z]
 | x::a,[]=>by simp[z0z]
 | x::a,y::b=>by
   simp only[z0z,List.cons.injEq]
   rw[←zaf a b]
   split
   ·simp; omega
   ·split
    ·simp; omega
    ·have:x=y:=by omega
     simp[this]
theorem z4k (a b:List Int) (ha:a.length≤16000000) (hb':b.length≤16000000):Ct Tryz.prog 35 [B8 a,B8 b] [] (lv (.bool (decide (a=b)))) [] []:=by
 refine z00 Tryz.func35 rfl rfl rfl rfl rfl (fun E hn hb=>?_)
 repeat (refine nst ?_)
 refine z1C (z9u a b ha hb') rfl rfl rfl (by rw[hn]; rfl) rfl rfl (by exact vcs) rfl rfl rfl ?_
 repeat (refine nst ?_)
 refine rt2 [] ?_ ?_
 ·have:(z0z a b==0)=decide (a=b):=by
   rw[Bool.eq_iff_iff]; simp[zaf]
  rw[←this]; rfl
 ·trivial
theorem z2l (l:List Int) (hl:l.length≤16000000):Ct Tryz.prog 13 [B8 l] [] (.c (.ptr 0 0)) [] [z04 l 0]:=by
 refine z00 Tryz.func13 rfl rfl rfl rfl rfl (fun E hn hb=>?_)
 repeat (refine nst ?_)
 refine z1v rfl rfl rfl (by rw[hn]; rfl) rfl (by exact vcs) rfl rfl ?_
 repeat (refine nst ?_)
 refine zau (by_:=1) rfl rfl rfl (by rw[hn]; rfl) (z0n Tryz.underlying28 rfl rfl) rfl rfl rfl (by exact vcs) l.length (by first | rfl |(simp; done) | omega) (by first |(simp; done) | omega |(simp at*; omega)) ?_
 repeat (refine nst ?_)
 refine z0m rfl rfl rfl rfl rfl (by exact vcs) rfl rfl rfl (by rw[z3l]; rfl) (by rw[z4R]; rfl) rfl rfl ?_
 repeat (refine nst ?_)
 refine zed rfl rfl rfl rfl rfl rfl (by rw[hn]; rfl) (z0n Tryz.underlying28 rfl rfl) rfl rfl rfl (by exact vcs) (by first |(simp; done) |(simp; omega) |(simp at*; omega)) ?_
 have e4:List.take 0 (List.replicate l.length (0:Int))++List.take l.length l++List.drop (0+(List.take l.length l).length) (List.replicate l.length (0:Int))=l:=by
  simp
 rw[e4]
 refine z4x (fun a w h=>SR.freezeC (d:= .ints .u8 l) (cs:= [.own 73 1 0 l.length,.lf (.v (.int .i64 0))]) (cs':= [.lf (.ints .u8 l),.lf (.v (.int .i64 0))]) 73 69 rfl rfl rfl (by rw[hb]; decide) ⟨⟨rfl,rfl,rfl,by omega,by rw[List.drop_zero,List.take_length]⟩,rfl,trivial⟩ h) ?_
 repeat (refine nst ?_)
 exact rt1 [69]
theorem z8h (l:List Int) (p:Nat) (hp:p<l.length) (hl:l.length≤16000000):Ct Tryz.prog 201 [.c (.ptr 0 0)] [z04 l p] (.tup [lv (.int .u8 (l.getD p 0)),lv (.int .i64 0)]) [z04 l (p+1)] []:=by
 have e:((p:Int)+1)=((p+1:Nat):Int):=by omega
 refine z00 Tryz.func201 rfl rfl rfl rfl rfl (fun E hn hb=>?_)
 repeat (refine nst ?_)
 refine z1b (z0L (z1J (zkm l p hp (by omega)) rfl rfl rfl (by exact vcs) ⟨.inr (.inr ⟨0,0,_,_,rfl,rfl,rfl,rfl⟩),trivial⟩ rfl) rfl) (by rw[hn]; rfl) ?_
 repeat (refine nst ?_)
 refine z06 rfl (by simp) (fun h1=>?_) (fun h1=>?_)
 ·repeat (refine nst ?_)
  refine z0m rfl rfl rfl rfl rfl (by exact vcs) rfl rfl rfl (by rw[z3T]; rfl) (by rw[z7z]; rfl) rfl rfl ?_
  repeat (refine nst ?_)
  refine rt2 [] ?_ ?_
  ·rfl
  ·trivial
 ·simp at h1
theorem z6P (l:List Int) (hl:l.length≤16000000):Ct Tryz.prog 201 [.c (.ptr 0 0)] [z04 l l.length] (.tup [lv (.int .u8 0),lv (.int .i64 3)]) [z04 l l.length] []:=by
 refine z00 Tryz.func201 rfl rfl rfl rfl rfl (fun E hn hb=>?_)
 repeat (refine nst ?_)
 refine z1b (z0L (z1J (zi8 l (by omega)) rfl rfl rfl (by exact vcs) ⟨.inr (.inr ⟨0,0,_,_,rfl,rfl,rfl,rfl⟩),trivial⟩ rfl) rfl) (by rw[hn]; rfl) ?_
 repeat (refine nst ?_)
 refine z06 rfl (by simp) (fun h1=>?_) (fun h1=>?_)
 ·simp at h1
 ·repeat (refine nst ?_)
  exact rt1 []
theorem z6A (l:List Int) (p n:Nat) (hp:p+n≤l.length) (hl:l.length≤16000000):Ct Tryz.prog 177 [.c (.ptr 0 0),lv (.int .i64 (n:Int))] [z04 l p] (.tup [B8 ((l.drop p).take n),lv (.int .i64 0)]) [z04 l (p+n)] []:=by
 have e:z5H l p n=0:=by rw[z5H,if_neg (by omega),if_neg (by omega)]
 have hm:=zg9 l p n (by omega) (by omega)
 rw[e] at hm
 have hlen:((l.drop p).take n).length=n:=by simp; omega
 have hc:=zga l p p n hp hl
 refine z00 Tryz.func177 rfl rfl rfl rfl rfl (fun E hn hb=>?_)
 repeat refine nx ?_
 refine z20 rfl (by rw[hn]; rfl) (z1N (z9Y (hc) rfl rfl rfl (by exact vcs) ⟨.inr (.inr ⟨0,0,_,_,rfl,rfl,rfl,rfl⟩),.inl rfl,.inl rfl,trivial⟩ rfl (by first |(simp; done) |(simp; omega) | omega)) rfl) ?_
 repeat refine nx ?_
 refine rt2 [] ?_ ?_
 ·show Av.tup [B8 ((((l.drop p).take n).drop 0).take n),lv (.int .i64 0)]=_
  rw[List.drop_zero,List.take_of_length_le (by omega)]
  rfl
 ·trivial
theorem z92 (l:List Int) (p:Nat) (n:Int) (h0:0≤n) (hp:p≤l.length) (hn:(l.length:Int) -p<n) (hl:l.length≤16000000):Ct Tryz.prog 177 [.c (.ptr 0 0),lv (.int .i64 n)] [z04 l p] (.tup [.c (.lf (.v (.slice none 0 0))),lv (.int .i64 3)]) [z04 l p] []:=by
 have e:z5H l p n=3:=by rw[z5H,if_neg (by omega),if_pos hn]
 have hm:=zg9 l p n (by omega) (by omega)
 rw[e] at hm
 refine z00 Tryz.func177 rfl rfl rfl rfl rfl (fun E hn hb=>?_)
 repeat (refine nst ?_)
 refine z1b (z0L (z1J (hm) rfl rfl rfl (by exact vcs) ⟨.inr (.inr ⟨0,0,_,_,rfl,rfl,rfl,rfl⟩),.inl rfl,trivial⟩ rfl) rfl) (by rw[hn]; rfl) ?_
 repeat (refine nst ?_)
 refine z06 rfl (by simp) (fun h1=>?_) (fun h1=>?_)
 ·repeat (refine nst ?_)
  exact rt1 []
 ·simp at h1
theorem z1L (l:List Int) (p q:Nat) (hq:q≤p) (hl:p≤16000000):Ct Tryz.prog 65 [.c (.ptr 0 0),lv (.int .i64 (q:Int))] [z04 l p] (lv (.int .i64 0)) [z04 l q] []:=by
 refine z00 Tryz.func65 rfl rfl rfl rfl rfl (fun E hn hb=>?_)
 repeat (refine nst ?_)
 refine z1b (z0L (z4f (neg:=false) rfl rfl rfl rfl (by exact vcs)) rfl) (by rw[hn]; rfl) ?_
 repeat (refine nst ?_)
 refine z06 rfl (by simp) (fun h1=>?_) (fun h1=>?_)
 ·simp at h1
 repeat (refine nst ?_)
 refine z06 rfl (by simp) (fun h1=>?_) (fun h1=>?_)
 ·simp at h1; omega
 repeat (refine nst ?_)
 refine z0m rfl rfl rfl rfl rfl (by exact vcs) rfl rfl rfl (by rw[z3T]; rfl) (by rw[z7z]; rfl) rfl rfl ?_
 repeat (refine nst ?_)
 exact rt1 []
theorem z6B (l:List Int) (p:Nat) (hp:p≤l.length) (hl:l.length≤16000000):Ct Tryz.prog 117 [.c (.ptr 0 0)] [z04 l p] (B8 (l.drop p)) [z04 l l.length] []:=by
 have hc:=zga l p p (l.length -p) (by omega) hl
 have e:((p:Int)+((l.length -p:Nat):Int))=(l.length:Int):=by omega
 rw[e] at hc
 have e2:(((l.drop p).take (l.length -p)).drop 0).take (l.length -p)=l.drop p:=by
  rw[List.drop_zero,List.take_take,Nat.min_self,List.take_of_length_le (by simp)]
 have hs:=zdT l p
 refine z00 Tryz.func117 rfl rfl rfl rfl rfl (fun E hn hb=>?_)
 repeat refine nx ?_
 refine z20 rfl (by rw[hn]; rfl) (z1N (z9Y (hc) rfl rfl rfl (by exact vcs) ⟨.inr (.inr ⟨0,0,_,_,rfl,rfl,rfl,rfl⟩),.inl rfl,.inl rfl,trivial⟩ rfl (by first |(simp; done) |(simp; omega) | omega)) rfl) ?_
 repeat refine nx ?_
 refine rt2 [] ?_ ?_
 ·show B8 ((((l.drop p).take (l.length -p)).drop 0).take (l.length -p))=_
  rw[e2]
  rfl
 ·trivial
theorem zoQ (l:List Int) (p n:Nat) (hp:p+n≤l.length) (hl:l.length≤16000000):Ct Tryz.prog 130 [.c (.ptr 0 0),lv (.int .i64 (n:Int))] [z04 l p] (.tup [.c (.ptr 1 0),lv (.int .i64 0)]) [z04 l (p+n)] [z04 ((l.drop p).take n) 0]:=by
 refine z00 Tryz.func130 rfl rfl rfl rfl rfl (fun E hn hb=>?_)
 repeat (refine nst ?_)
 have ht:=z6A l p n hp hl
 refine z0w [0] ht rfl rfl (by rw[hn]; rfl) rfl rfl (by trivial) ⟨rfl,rfl,(by simp[z0b]),rfl⟩ ?_
 repeat (refine nst ?_)
 refine z06 rfl (by simp) (fun h1=>?_) (fun h1=>?_)
 ·simp at h1
 repeat (refine nst ?_)
 refine z1v rfl rfl rfl (by rw[hn]; rfl) rfl (by exact vcs) rfl rfl ?_
 repeat (refine nst ?_)
 refine z0m rfl rfl rfl rfl rfl (by exact vcs) rfl rfl rfl (by rw[z3l]; rfl) (by rw[z4R]; rfl) rfl rfl ?_
 repeat (refine nst ?_)
 exact rt1 [83]
theorem zkn (l:List Int) (p:Nat) (n:Int) (h0:0≤n) (hp:p≤l.length) (hn':(l.length:Int) -p<n) (hl:l.length≤16000000):Ct Tryz.prog 130 [.c (.ptr 0 0),lv (.int .i64 n)] [z04 l p] (.tup [.c (.lf (.v (.pointer none))),lv (.int .i64 3)]) [z04 l p] []:=by
 refine z00 Tryz.func130 rfl rfl rfl rfl rfl (fun E hn hb=>?_)
 repeat (refine nst ?_)
 have ht:=z92 l p n h0 hp hn' hl
 refine z0w [0] ht rfl rfl (by rw[hn]; rfl) rfl rfl (by trivial) ⟨rfl,rfl,(by simp[z0b]),rfl⟩ ?_
 repeat (refine nst ?_)
 refine z06 rfl (by simp) (fun h1=>?_) (fun h1=>?_)
 ·repeat (refine nst ?_)
  exact rt1 []
 ·simp at h1
@[simp] theorem zyv (x:Int):IntKind.u8.wrap x=x%256:=by simp[IntKind.wrap,IntKind.signed,IntKind.bits]
def WfB (l:List Int):Prop:=∀ x ∈ l,0≤x∧x<256
def hd0 (l:List Int):Int:=l.getD 0 0
def z3c (l:List Int) (i:Nat):List Int:=(List.range l.length).map fun k=>if k<i∨l.length≤k+i then l.getD (l.length -1 -k) 0 else l.getD k 0
theorem zi9 (l:List Int) (i:Nat):(z3c l i).length=l.length:=by simp[z3c]
theorem zbT (l:List Int) (i k:Nat) (h:k<l.length):(z3c l i).getD k 0=if k<i∨l.length≤k+i then l.getD (l.length -1 -k) 0 else l.getD k 0:=by
 simp[z3c,h]
theorem zgc (l:List Int):z3c l 0=l:=by
 apply List.ext_getElem?
 intro k
 by_cases h:k<l.length
 ·simp[z3c,h]; intro; omega
 ·simp[z3c,h]
theorem zia (l:List Int) (i:Nat) (h:l.length≤2*i+1):z3c l i=l.reverse:=by
 apply List.ext_getElem?
 intro k
 by_cases hk:k<l.length
 ·rw[List.getElem?_reverse hk]
  simp only[z3c,List.getElem?_map,List.getElem?_range hk,Option.map_some]
  have h1:l.length -1 -k<l.length:=by omega
  rw[List.getElem?_eq_getElem h1]
  split
  ·simp[h1]
  ·have:l.length -1 -k=k:=by omega
   simp[this,hk]
 ·simp[z3c,hk]
theorem zib (l:List Int) (i:Nat) (h:2*i+1<l.length):((z3c l i).set i (l.getD (l.length -1 -i) 0)).set (l.length -1 -i) (l.getD i 0)=z3c l (i+1):=by
 apply List.ext_getElem?
 intro k
 by_cases hk:k<l.length
 ·simp only[List.getElem?_set,z3c,List.getElem?_map,List.getElem?_range hk,Option.map_some,List.length_set,List.length_map,List.length_range]
  by_cases h1:l.length -1 -i=k
  ·subst h1
   have e:l.length -1 -(l.length -1 -i)=i:=by omega
   rw[if_pos rfl,if_pos (by omega),e,if_pos (by omega)]
  ·rw[if_neg h1]
   by_cases h2:i=k
   ·subst h2
    rw[if_pos rfl,if_pos (by omega),if_pos (by omega)]
   ·rw[if_neg h2]
    congr 1
    by_cases h3:k<i∨l.length≤k+i
    ·rw[if_pos h3,if_pos (by omega)]
    ·rw[if_neg h3,if_neg (by omega)]
 ·simp[z3c,hk]
theorem zoR {P:Program} {E:Env} {ops:Array Oper} {o:Oper} {σ:St} {ns b own:List Nat} {bs:List (List Nat×List Nat)} {l:List Oper} {K:St→Prop} {t:TypeId} {x y:Operand} {px py:List Prop} {j off:Nat} {k:IntKind} {n:Int} {l1:List Int} (hk:z0a P E ops ns bs l (σ.seth j (.row (.ints k (l1.set off n)))) K) (hop:o.op= .store t x y:=by exact rfl) (hg:o.guard=none:=by exact rfl) (hdn:o.dst=none:=by exact rfl) (hx:ox σ x=(px,.c (.ptr j off)):=by exact rfl) (hc:σ.hp j= .row (.ints k l1):=by exact rfl)
  (hy:ox σ y=(py,lv (.int k n)):=by exact rfl) (hb:z0c j b=false:=by exact rfl) (ho:z0c j own=true:=by exact rfl) (hsz:P.cellsOf t=1:=by first |(simp; done) | fail) (hp:z03 (px++py):=by exact vcs) (hlt:off<l1.length:=by first | assumption | omega |(simp; omega)):z0a P E ops ns ((b,own)::bs) (o::l) σ K:=by
 refine z5D (z99 hg hdn hb fun τ hox hj=>z9w hop hdn ((hox x (by rw[hop]; simp[Op.operands])).trans hx) ((hox y (by rw[hop]; simp[Op.operands])).trans hy) hp (hj.trans hc) hsz hlt) (zfD ho (by simp)) ?_
 rw[z5U,hdn]
 exact hk
theorem z6Q (l:List Int) (hl:l.length≤16000000):Ct Tryz.prog 232 [.c (.own 0 1 0 l.length)] [.row (.ints .u8 l)] (.tup []) [.row (.ints .u8 l.reverse)] []:=by
 refine z00 Tryz.func232 rfl rfl rfl rfl rfl (fun E hn hb=>?_)
 repeat (refine nst ?_)
 have ez:=zgc l
 refine z09 (St.le_of (l:= [(0,.c (.own 0 1 0 l.length)),(2,lv (.int .i64 0)),(3,lv (.int .i64 ((l.length:Int) -1)))]) (h:= [(0,.row (.ints .u8 l))]) (by refine⟨?_,?_⟩<;>(repeat' (first | exact trivial | exact rfl | refine⟨?_,?_⟩))<;>first | exact rfl |(simp; done) | skip)) ?_
 refine z09 (τ:=St.of [(0,.c (.own 0 1 0 l.length)),(2,lv (.int .i64 ((0:Nat):Int))),(3,lv (.int .i64 ((l.length:Int) -1 -(0:Nat))))] [(0,.row (.ints .u8 (z3c l 0)))]) ?_ ?_
 ·rw[ez]; simp only[Int.natCast_zero,Int.sub_zero]; exact⟨fun _=> .inl rfl,fun _=> .inl rfl⟩
 refine z0k (ι:= {i:Nat//2*i≤l.length+1}) (fun i=>St.of [(0,.c (.own 0 1 0 l.length)),(2,lv (.int .i64 (i.1:Int))),(3,lv (.int .i64 ((l.length:Int) -1 -i.1)))] [(0,.row (.ints .u8 (z3c l i.1)))]) (fun i=>l.length+1 -2*i.1) (fun i=>?_) ⟨0,by omega⟩
 obtain⟨i,hi⟩:=i
 dsimp only
 have hL:=zi9 l i
 repeat (refine nst ?_)
 refine z06 rfl (by simp) (fun hc=>?_) (fun hc=>?_)
 ·have h2:2*i+1<l.length:=by simp at hc; omega
  repeat (refine nst ?_)
  refine z6F [] [(13,0),(15,0)] (by kernel_rfl) (by kernel_rfl) (by exact rfl) rfl ?_
  repeat (first | refine zoR ?_ | refine nx ?_)
  have e1:((l.length:Int) -1 -i).toNat=l.length -1 -i:=by omega
  have g1:(z3c l i).getD (0+((l.length:Int) -1 -i).toNat) 0=l.getD (l.length -1 -i) 0:=by
   rw[e1,Nat.zero_add,zbT l i _ (by omega),if_neg (by omega)]
  have g2:(z3c l i).getD (0+(i:Int).toNat) 0=l.getD i 0:=by
   rw[Int.toNat_natCast,Nat.zero_add,zbT l i _ (by omega),if_neg (by omega)]
  rw[g1,g2]
  refine z08 ⟨i+1,by omega⟩ (by dsimp only; omega) (St.le_of ⟨⟨rfl,rfl,?_⟩,?_⟩)
  ·show lv (.int .i64 ((l.length:Int) -1 -i -1))=lv (.int .i64 ((l.length:Int) -1 -(i+1:Nat)))
   have:(l.length:Int) -1 -i -1=(l.length:Int) -1 -(i+1:Nat):=by omega
   rw[this]
  ·show Blk.row (.ints .u8 (((z3c l i).set (0+(i:Int).toNat) (l.getD (l.length -1 -i) 0)).set (0+((l.length:Int) -1 -i).toNat) (l.getD i 0)))=Blk.row (.ints .u8 (z3c l (i+1)))
   rw[e1,Int.toNat_natCast,Nat.zero_add,Nat.zero_add,zib l i h2]
 ·have h2:l.length≤2*i+1:=by simp at hc; omega
  repeat (refine nst ?_)
  refine zpG [] rfl trivial ⟨rfl,?_,trivial,rfl⟩ hb rfl (by simp[z0b])
  exact congrArg (fun l=>Blk.row (.ints .u8 l)) (zia l i h2)
end Go.Proofs.YtaagjnlkinojcaaGreat

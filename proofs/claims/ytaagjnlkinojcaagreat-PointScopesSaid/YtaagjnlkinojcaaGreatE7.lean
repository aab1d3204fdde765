/-
  Chapter 17: the next extension at a cursor. The conditions: rows of at most a million bytes.
-/
import Derived.Test.YtaagjnlkinojcaaGreatO7
import Derived.Test.YtaagjnlkinojcaaGreatO3
import Derived.Test.YtaagjnlkinojcaaGreatC4
import Derived.Test.YtaagjnlkinojcaaGreatW10
import Derived.Test.YtaagjnlkinojcaaGreatD15
import Derived.Test.YtaagjnlkinojcaaGreatA6
import Derived.Test.YtaagjnlkinojcaaGreatB4
import Derived.Test.YtaagjnlkinojcaaGreatB16
import Derived.Test.YtaagjnlkinojcaaGreatSxQ
import Derived.Test.YtaagjnlkinojcaaGreatTy
import Derived.Test.YtaagjnlkinojcaaGreatC12
import Derived.Test.YtaagjnlkinojcaaGreatC8
namespace Go.Proofs.YtaagjnlkinojcaaGreat
set_option linter.unusedSimpArgs false
set_option linter.unusedVariables false
open Go.Sx
set_option maxRecDepth 10000
theorem z8V (o:List Int) (hl:o.length≤16000000):Ct Tryz.prog 212 [I64 o] [] (lv (.bool (z0V o))) [] []:=by
 obtain⟨R,hR⟩:∃ R,z0V o=R:=⟨_,rfl⟩
 rw[hR]
 refine z00 Tryz.func212 rfl rfl rfl rfl rfl (fun E hn hb=>?_)
 repeat (refine nst ?_)
 refine z06 rfl (by simp) (fun hc=>?_) (fun hc=>?_)
 ·have:R=false:=by
   rw[←hR]
   simp at hc
   match o,hc with
   | [],_=>rfl
   | [_],_=>rfl
   | a::b::t,hc=>simp at hc; rw[z1J,if_pos (by omega)]
  subst this
  repeat (refine nst ?_)
  exact rt1 []
 ·have hlen:2≤o.length∧o.length≤32:=by simp at hc; omega
  repeat (refine nst ?_)
  refine z09 (St.le_of (l:= [(0,I64 o),(3,lv (.int .i64 ((0:Nat):Int)))]) (h:= []) (by refine⟨?_,?_⟩<;>(repeat' (first | exact trivial | exact rfl | refine⟨?_,?_⟩))<;>first | exact rfl |(simp; done) | skip)) ?_
  refine z0h (ι:= {i:Nat//i≤o.length∧(o.take i).all inR=true}) (fun i=>St.of [(0,I64 o),(3,lv (.int .i64 (i.1:Int)))] []) (fun i=>o.length -i.1) (fun i=>?_) ⟨0,by omega,by simp⟩
  obtain⟨i,hi,ha⟩:=i
  dsimp only
  repeat (refine nst ?_)
  refine z06 rfl (by simp) (fun hc=>?_) (fun hc=>?_)
  ·have hi2:i<o.length:=by simpa using hc
   repeat (refine nst ?_)
   refine z06 rfl (by simp) (fun h2=>?_) (fun h2=>?_)
   ·have:R=false:=by
     rw[←hR]
     have hg:=zeg hi2 (by simp[Bool.cond_eq_ite] at h2; simp only[inR,Bool.not_eq_false',Bool.or_eq_true,decide_eq_true_eq]; rw[List.getD_eq_getElem?_getD]; omega)
     match o,hlen,hg with
     | a::b::t,hlen,hg=>rw[z1J,hg]; simp
    subst this
    repeat (refine nst ?_)
    exact rt1 []
   ·repeat (refine nst ?_)
    (refine z07 ?i1 ?i2 ?i3; (case i1=>exact⟨i+1,by omega,zd1 hi2 ha (by simp[Bool.cond_eq_ite] at h2; simp only[inR,Bool.not_eq_true',Bool.or_eq_false_iff,decide_eq_false_iff_not]; rw[List.getD_eq_getElem?_getD]; omega)⟩); (case i2=>(dsimp only; omega)); (case i3=>refine St.le_of ⟨?_,?_⟩<;>(repeat' (first | exact trivial | exact rfl | refine⟨?_,?_⟩))<;>first | exact rfl |(simp; done) | skip))
  ·have:i=o.length:=by simp at hc; omega
   subst this
   rw[List.take_length] at ha
   clear hi
   match o,hlen,ha,hR with
   | a::b::t,hlen,ha,hR=>
   have h30:¬ 30<t.length:=by simp at hlen; omega
   have ha0:0≤a:=by
    have:=List.all_eq_true.1 ha a (by simp)
    simp[inR] at this
    exact this.1
   rw[z1J,if_neg h30,ha,if_neg (by simp)] at hR
   repeat (refine nst ?_)
   refine rt2 [] ?_ ?_
   ·refine congrArg (fun x=>lv (.bool x)) (?_:(bif bif decide (a<2) then decide (b<40) else false then true else bif a==2 then decide (b≤2147483567) else false)=R)
    rw[←hR]
    by_cases h0:a=0∨a=1
    ·have h1:a<2:=by omega
     have h2:(a==2)=false:=by simp; omega
     rw[if_pos h0,h2]
     simp[h1]
    ·have h1:¬ a<2:=by omega
     rw[if_neg h0]
     by_cases h2:a=2
     ·simp[h2]
     ·simp[h1,h2]
   ·trivial
theorem zfD (a b:List Int) (ha:a.length≤16000000) (hb':b.length≤16000000):Ct Tryz.prog 140 [I64 a,I64 b] [] (lv (.bool (decide (a=b)))) [] []:=by
 refine z00 Tryz.func140 rfl rfl rfl rfl rfl (fun E hn hb=>?_)
 repeat (refine nst ?_)
 refine z1r (zg8 a b ha hb') rfl rfl rfl (by rw[hn]; rfl) rfl rfl (by exact vcs) rfl rfl rfl ?_
 repeat (refine nst ?_)
 refine rt2 [] ?_ ?_
 ·refine congrArg (fun x=>lv (.bool x)) (?_:(z0z a b==0)=decide (a=b))
  rw[Bool.eq_iff_iff]
  simp[zal]
 ·trivial
theorem z4I {n:Nat} (h:n<128):z19 n= [(n:Int)]:=by
 have h1:n/128=0:=Nat.div_eq_of_lt h
 have h2:n%128=n:=Nat.mod_eq_of_lt h
 rw[z19,h1,h2]
 rfl
theorem zbu:∀(k n:Nat),n<128^k→z3I (k+1) n=z3I k n
 | 0,n,h=>by
   have:n=0:=by simpa using h
   subst this
   rfl
 | k+1,n,h=>by
   have h1:n/128<128^k:=by
    rw[Nat.pow_succ] at h
    exact Nat.div_lt_of_lt_mul (by rw[Nat.mul_comm]; exact h)
   have:=zbu k (n/128) h1
   unfold z3I
   split
   ·rfl
   ·rw[this]
theorem z7o {n:Nat} (h:¬ n<128) (h0:n<4294967296):∃ L,z19 (n/128)=L++ [((n/128%128:Nat):Int)]∧z19 n=(L++ [((n/128%128:Nat):Int)+128])++ [((n%128:Nat):Int)]:=by
 refine⟨(z3I 5 (n/128/128)).reverse,by simp[z19],?_⟩
 have h1:n/128≠0:=by omega
 have h2:=zbu 4 (n/128/128) (by omega)
 rw[z19]
 conv=>lhs; unfold z3I
 rw[if_neg h1,←h2]
 simp
set_option maxHeartbeats 1000000 in
theorem z5Y:∀(k n:Nat),n<128^(k+1)→n<4294967296→Ct Tryz.prog 238 [lv (.int .i64 (n:Int))] [] (.c (.own 0 1 0 (z19 n).length)) [] [.row (.ints .u8 (z19 n))]
 | k,n,h,h0=>by
   by_cases h1:n<128
   ·rw[z4I h1]
    refine z00 Tryz.func238 rfl rfl rfl rfl rfl (fun E hn hb=>?_)
    repeat (refine nst ?_)
    refine z06 rfl (by simp) (fun hc=>?_) (fun hc=>?_)
    ·repeat (refine nst ?_)
     refine z1R rfl rfl rfl (by rw[hn]; rfl) (z0n Tryz.underlying28 rfl rfl) (z2S) (by exact vcs) ⟨by decide,rfl⟩ ?_
     repeat (refine nst ?_)
     exact rt1 [72]
    ·simp at hc; omega
   ·obtain⟨k,rfl⟩:∃ k',k=k'+1:=by
     cases k with
     | zero=>simp at h; omega
     | succ k=>exact⟨k,rfl⟩
    have ih:=z5Y k (n/128) (by
     rw[Nat.pow_succ] at h
     exact Nat.div_lt_of_lt_mul (by rw[Nat.mul_comm]; exact h)) (by omega)
    obtain⟨L,e1,e2⟩:=z7o h1 h0
    have hLl:L.length≤10:=by
     have:=z5L (n/128)
     rw[e1] at this
     simp at this
     omega
    have hx:n/128%128<128:=Nat.mod_lt _ (by decide)
    rw[e1] at ih
    rw[e2]
    generalize n/128%128=x at*
    have el:(L++ [((x:Nat):Int)]).length=L.length+1:=by simp
    rw[el] at ih
    have hq:(n:Int)/128=((n/128:Nat):Int):=by omega
    have hm:(n:Int)%128=((n%128:Nat):Int):=by omega
    refine z00 Tryz.func238 rfl rfl rfl rfl rfl (fun E hn hb=>?_)
    repeat (refine nst ?_)
    refine z06 rfl (by simp) (fun hc=>?_) (fun hc=>?_)
    ·simp at hc; omega
    ·repeat (refine nst ?_)
     rw[hq]
     have ei:0+((((L.length+1:Nat):Int)) -1).toNat=L.length:=by omega
     have eg:(L++ [((x:Nat):Int)]).getD L.length 0=x:=by simp
     have es:(L++ [((x:Nat):Int)]).set L.length ((x:Int)+128)=L++ [(x:Int)+128]:=by simp
     refine zaH ih rfl rfl rfl (by rw[hn]; rfl) rfl rfl (by exact vcs) rfl rfl rfl ?_
     repeat (refine nst ?_)
     rw[ei,eg]
     repeat (refine nst ?_)
     refine zcj rfl rfl rfl rfl rfl (by exact vcs) rfl (by rw[zdt]) (by first |(simp; done) |(simp; omega) |(simp at*; omega)) ?_
     rw[es]
     repeat (refine nst ?_)
     rw[hm]
     refine z1R rfl rfl rfl (by rw[hn]; rfl) (z0n Tryz.underlying28 rfl rfl) (z2S) (by exact vcs) ⟨by decide,rfl⟩ ?_
     repeat (refine nst ?_)
     have ef:(L++ [(x:Int)+128]++ [((n%128:Nat):Int)]).length=L.length+1+1:=by simp
     have eL:L.length+1=(L++ [(x:Int)+128]).length:=by simp
     rw[eL]
     refine z2G rfl rfl rfl rfl rfl rfl (by rw[hn]; rfl) (z0n Tryz.underlying28 rfl rfl) rfl rfl rfl rfl (by exact vcs) (by first | rfl |(simp; done) |(simp; omega)) ⟨by first |(simp; done) |(simp; omega) |(simp at*; omega),by decide⟩ ?_
     repeat (refine nst ?_)
     exact rt1 [75]
theorem zhb (o:List Int) (hr:z0V o=true):Ct Tryz.prog 229 [I64 o] [] (B8 (z0v (z0Y o))) [] []:=by
 obtain⟨a,b,t,rfl,ha0,ha2,hb0,hb1,ht,hx,_⟩:=z3W hr
 have h1:=z5Y 4 (40*a+b).toNat (by omega) (by omega)
 rw[Int.toNat_of_nonneg (by omega)] at h1
 show Ct Tryz.prog 229 [I64 (a::b::t)] [] (B8 (z0v ((40*a+b)::t))) [] []
 have e0:z0v ((40*a+b)::t)=z19 (40*a+b).toNat++z0v t:=rfl
 rw[e0]
 generalize hA:z19 (40*a+b).toNat=A at*
 have hAl:A.length≤6:=by rw[←hA]; exact z5L _
 refine z00 Tryz.func229 rfl rfl rfl rfl rfl (fun E hn hb=>?_)
 repeat (refine nst ?_)
 refine z06 rfl (by simp) (fun hc=>?_) (fun hc=>?_)
 ·simp at hc; omega
 repeat (refine nst ?_)
 refine z2V 8 (by kernel_rfl) (by kernel_rfl) (by kernel_rfl) (by rw[hn]; rfl) rfl rfl ?_
 repeat (first | refine dp1 ?_ | refine dg1 ?_ | refine z1i ?_)
 repeat (refine nst ?_)
 refine zaH h1 rfl rfl rfl (by rw[hn]; rfl) rfl rfl (by exact vcs) rfl rfl rfl ?_
 repeat (refine nst ?_)
 have hlen:(a::b::t).length=t.length+2:=rfl
 rw[hlen]
 refine z09 (St.le_of (l:= [(0,I64 (a::b::t)),(3,.c (.own 80 1 0 A.length)),(4,lv (.int .i64 (((0:Nat):Int)+2)))]) (h:= [(80,.row (.ints .u8 A))]) (by refine⟨?_,?_⟩<;>(repeat' (first | exact trivial | exact rfl | refine⟨?_,?_⟩))<;>first | exact rfl |(simp; done) | skip)) ?_
 refine z0h (ι:= {s:Nat×List Int//s.1≤t.length∧s.2=A++z0v (t.take s.1)}) (fun s=>St.of [(0,I64 (a::b::t)),(3,.c (.own 80 1 0 s.1.2.length)),(4,lv (.int .i64 ((s.1.1:Int)+2)))] [(80,.row (.ints .u8 s.1.2))]) (fun s=>t.length -s.1.1) (fun s=>?_) ⟨(0,A),by dsimp only; omega,by simp[z0v]⟩
 obtain⟨⟨i,acc⟩,hi,he⟩:=s
 dsimp only at hi he ⊢
 repeat (refine nst ?_)
 refine z06 rfl (by simp) (fun hc=>?_) (fun hc=>?_)
 ·have hi2:i<t.length:=by
   have h3:(i:Int)+2<((a::b::t).length:Int):=by simpa using hc
   rw[hlen] at h3
   omega
  have hal:acc.length≤1000:=by
   have:=z64 (t.take i)
   rw[he]
   simp at this ⊢
   omega
  have hxi:t.getD i 0 ∈ t:=by rw[List.getD_eq_getElem?_getD,List.getElem?_eq_getElem hi2]; exact List.getElem_mem hi2
  have hxb:=hx _ hxi
  have hnext:=z9w hi2
  have hd:=z5Y 4 (t.getD i 0).toNat (by omega) (by omega)
  rw[Int.toNat_of_nonneg hxb.1] at hd
  have hl2:=z5L (t.getD i 0).toNat
  have hg:(a::b::t).getD (((i:Int)+2).toNat) 0=t.getD i 0:=by
   have:((i:Int)+2).toNat=i+2:=by omega
   rw[this]; rfl
  generalize hB:z19 (t.getD i 0).toNat=B at*
  generalize hX:t.getD i 0=X at*
  repeat (refine nst ?_)
  rw[hg]
  refine zaH hd rfl rfl rfl (by rw[hn]; rfl) rfl rfl (by exact vcs) rfl rfl rfl ?_
  repeat (refine nst ?_)
  refine z2G rfl rfl rfl rfl rfl rfl (by rw[hn]; rfl) (z0n Tryz.underlying28 rfl rfl) rfl rfl rfl rfl (by exact vcs) (by first | rfl |(simp; done) |(simp; omega)) ⟨by first |(simp; done) |(simp; omega) |(simp at*; omega),by decide⟩ ?_
  repeat (refine nst ?_)
  have e2:(i:Int)+2+1=((i+1:Nat):Int)+2:=by omega
  rw[e2]
  rw[List.take_length]
  (refine z07 ?i1 ?i2 ?i3; (case i1=>exact⟨(i+1,acc++B),by dsimp only; omega,by dsimp only; rw[hnext,he,List.append_assoc]⟩); (case i2=>(dsimp only; omega)); (case i3=>refine St.le_of ⟨?_,?_⟩<;>(repeat' (first | exact trivial | exact rfl | refine⟨?_,?_⟩))<;>first | exact rfl |(simp; done) | skip))
 ·have hi2:i=t.length:=by
   have h3:¬ (i:Int)+2<((a::b::t).length:Int):=by simpa using hc
   rw[hlen] at h3
   omega
  subst hi2
  rw[List.take_length] at he
  subst he
  generalize A++z0v t=X at*
  repeat (refine nst ?_)
  refine zcL 80 [(2,B8 X)] rfl hb ⟨⟨rfl,rfl,rfl,by simp,by simp⟩,rfl⟩ ?_
  exact rt1 []
def zd7 (o:List Int):List Int×Int:=if z0V o then(z0v (z0Y o),0) else([],1)
def z1o (o:List Int):List Int×Int:=if z0V o then(z04 (ofT 6) (z0v (z0Y o)),0) else([],1)
theorem z3P {o:List Int} (hr:z0V o=true):(z0v (z0Y o)).length≤186:=by
 obtain⟨a,b,t,rfl,_,_,_,_,ht,_⟩:=z3W hr
 have:=z64 (z0Y (a::b::t))
 simp[z0Y] at*
 omega
theorem zkX (o:List Int) (hl:o.length≤16000000):Ct Tryz.prog 236 [I64 o] [] (.tup [B8 (zd7 o).1,lv (.int .i64 (zd7 o).2)]) [] []:=by
 have h:=zid o hl
 unfold z8m at h
 unfold zd7
 split at h
 ·rename_i hr; rw[if_pos hr]; exact h
 ·rename_i hr; rw[if_neg hr]; exact h
theorem zbv (o:List Int) (hl:o.length≤16000000):Ct Tryz.prog 222 [I64 o] [] (.tup [B8 (z1o o).1,lv (.int .i64 (z1o o).2)]) [] []:=by
 have hc:=zkX o hl
 by_cases hr:z0V o=true
 ·have e1:zd7 o=(z0v (z0Y o),0):=if_pos hr
  have e2:z1o o=(z04 (ofT 6) (z0v (z0Y o)),0):=if_pos hr
  have hlen:=z3P hr
  rw[e1] at hc
  rw[e2]
  generalize z0v (z0Y o)=X at*
  have hwr:=z6E (ofT 6) [X] (by decide) (by simp) (by simp; omega)
  rw[show [X].flatten=X by simp] at hwr
  have hof:=z1G 6
  generalize ofT 6=t at*
  generalize z04 t X=Y at*
  refine z00 Tryz.func222 rfl rfl rfl rfl rfl (fun E hn hb=>?_)
  repeat (refine nst ?_)
  refine z1r (hc) rfl rfl rfl (by rw[hn]; rfl) rfl rfl (by exact vcs) rfl rfl rfl ?_
  repeat (refine nst ?_)
  refine z06 rfl (by simp) (fun h1=>?_) (fun h1=>?_)
  ·simp at h1
  repeat (refine nst ?_)
  refine z1r (hof) rfl rfl rfl (by rw[hn]; rfl) rfl rfl (by exact vcs) rfl rfl rfl ?_
  repeat (refine nst ?_)
  refine z0W (z0E (z8n (d:=(.recs 1 [[.ints .u8 X]])) rfl (z0n Tryz.underlying249 rfl rfl) zbU rfl (by exact vcs) rfl ⟨by decide,by decide,rfl,rfl⟩) rfl) (by rw[hn]; rfl) ?_
  refine z1r (hwr) rfl rfl rfl (by rw[hn]; rfl) rfl rfl (by exact vcs) rfl rfl rfl ?_
  repeat (refine nst ?_)
  exact rt1 []
 ·have e1:zd7 o=([],1):=if_neg hr
  have e2:z1o o=([],1):=if_neg hr
  rw[e1] at hc
  rw[e2]
  refine z00 Tryz.func222 rfl rfl rfl rfl rfl (fun E hn hb=>?_)
  repeat (refine nst ?_)
  refine z1r (hc) rfl rfl rfl (by rw[hn]; rfl) rfl rfl (by exact vcs) rfl rfl rfl ?_
  repeat (refine nst ?_)
  refine z06 rfl (by simp) (fun h1=>?_) (fun h1=>?_)
  ·repeat (refine nst ?_)
   refine z6B [] rfl (by simp) (r':= .tup [B8 [],lv (.int .i64 1)]) ⟨.inr ⟨rfl,.inl ⟨_,rfl⟩⟩,.inl rfl,trivial⟩ ⟨rfl,trivial,trivial,rfl⟩ hb rfl trivial
  ·simp at h1
theorem zjd {u:Int} {l:List Int} (h:z0P u l=true):0≤u∧u≤7:=by
 unfold z0P at h
 by_cases h0:l= []
 ·rw[if_pos h0] at h; simp at h; omega
 ·rw[if_neg h0] at h; simp at h; omega
theorem zje (u:Int) (l:List Int) (hl:l.length≤16000000) (hw:WfB l):Ct Tryz.prog 145 [z3t u l] [] (.tup [B8 (if z0P u l=true then u::l else []),lv (.int .i64 (if z0P u l=true then 0 else 1))]) [] []:=by
 have hr:=z4u u l hl hw
 cases hg:z0P u l with
 | false=>
   rw[hg] at hr
   rw[if_neg (by simp),if_neg (by simp)]
   refine z00 Tryz.func145 rfl rfl rfl rfl rfl (fun E hn hb=>?_)
   repeat refine nx ?_
   exact rtU []
 | true=>
   rw[hg] at hr
   have hu:=zjd hg
   rw[if_pos rfl,if_pos rfl]
   refine z00 Tryz.func145 rfl rfl rfl rfl rfl (fun E hn hb=>?_)
   repeat (first | refine lo1 ?_ | refine nx ?_)
   refine z2d 2 ?_
   exact rt1 []
end Go.Proofs.YtaagjnlkinojcaaGreat
namespace Go.Sx
open Go
set_option linter.unusedVariables false
set_option linter.unusedSimpArgs false
section
variable {P:Program} {E:Env} {ops:Array Oper} {Q:Exit→Act→World→Prop} {rest:List Oper} {o:Oper} {σ:St} {α:Type} {f:α→List Leaf}
theorem wgF {nt:Nat} {dd:Option Nat} {i:Nat} {b:Bool} (x:Av) (hn:E.n=nt) (hk:WL P E ops Q rest (σ.put dd (.cnd false x))) (hg:o.guard=some (i,b):=by exact rfl) (hG:z14 ops σ i b=some false:=by exact rfl) (hdf:z0j o.dst some=some dd:=by exact rfl) (hd:z0d nt dd=true:=by exact rfl):WL P E ops Q (o::rest) σ:=by
 simp only[z0s,Option.some.injEq] at hdf
 subst hdf
 exact z0W (z3Y hg hG fun h=>by cases h) (by rw[hn]; exact hd) hk
end
end Go.Sx
namespace Go.Proofs.YtaagjnlkinojcaaGreat
set_option linter.unusedSimpArgs false
set_option linter.unusedVariables false
open Go.Sx
set_option maxRecDepth 10000
abbrev ExT:Type:=List Int×Bool×List Int
theorem z8W {α:Type} [Inhabited α] (p:α→Bool) (l:List α) (i:Nat) (h:i<l.length):(l.take (i+1)).filter p=(l.take i).filter p++(if p (l.getD i default)=true then [l.getD i default] else []):=by
 rw[List.take_add_one,List.filter_append,List.getD_eq_getElem?_getD,List.getElem?_eq_getElem h]
 simp only[Option.toList_some,Option.getD_some,List.filter_cons,List.filter_nil]
def zfE (l:List ExT) (o:List Int):List ExT:=l.filter fun e=>!decide (e.1=o)
structure DelI (l:List ExT) (o:List Int) (cur:List ExT) (i j:Nat):Prop where
 le:i≤j
 jl:j≤l.length
 len:cur.length=l.length
 front:cur.take i=zfE (l.take j) o
 back:cur.drop j=l.drop j
theorem DelI.get {l cur:List ExT} {o:List Int} {i j:Nat} (h:DelI l o cur i j) (hj:j<l.length):cur.getD j default=l.getD j default:=by
 have h1:=congrArg (fun x=>x.getD 0 default) h.back
 simpa[List.getD_eq_getElem?_getD,List.getElem?_drop] using h1
theorem DelI.skip {l cur:List ExT} {o:List Int} {i j:Nat} (h:DelI l o cur i j) (hj:j<l.length) (he:(l.getD j default).1=o):DelI l o cur i (j+1):=by
 refine⟨by have:=h.le; omega,by omega,h.len,?_,?_⟩
 ·rw[h.front]
  have:=z8W (fun e:ExT=>!decide (e.1=o)) l j hj
  rw[if_neg (by rw[decide_eq_true he]; simp),List.append_nil] at this
  exact this.symm
 ·have:=congrArg (List.drop 1) h.back
  rwa[List.drop_drop,List.drop_drop] at this
theorem DelI.keep {l cur:List ExT} {o:List Int} {i j:Nat} (h:DelI l o cur i j) (hj:j<l.length) (he:¬ (l.getD j default).1=o):DelI l o (cur.set i (l.getD j default)) (i+1) (j+1):=by
 have hle:=h.le
 have hlen:=h.len
 refine⟨by omega,by omega,by simpa using hlen,?_,?_⟩
 ·have:=z8W (fun e:ExT=>!decide (e.1=o)) l j hj
  rw[if_pos (by rw[decide_eq_false he]; rfl)] at this
  unfold zfE
  rw[this]
  have h2:=h.front
  unfold zfE at h2
  rw[←h2,List.take_add_one,List.getElem?_set_self (by omega),List.take_set_of_le (Nat.le_refl i)]
  rfl
 ·rw[List.drop_set_of_lt (by omega)]
  have:=congrArg (List.drop 1) h.back
  rwa[List.drop_drop,List.drop_drop] at this
def isH (l:List Int) (p:Nat) (t:z0g):Bool:=decide ((z0a l p).2.2=0)&&decide ((z0a l p).1.1=t)
end Go.Proofs.YtaagjnlkinojcaaGreat

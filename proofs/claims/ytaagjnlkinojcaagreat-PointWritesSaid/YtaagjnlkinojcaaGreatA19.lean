/-
  Wholes that are read stand as they would be written. The conditions: bytes.
-/
import Derived.Test.YtaagjnlkinojcaaGreatO7
import Derived.Test.YtaagjnlkinojcaaGreatC7
import Derived.Test.YtaagjnlkinojcaaGreatC4
import Derived.Test.YtaagjnlkinojcaaGreatW10
import Derived.Test.YtaagjnlkinojcaaGreatD15
import Derived.Test.YtaagjnlkinojcaaGreatM3
import Derived.Test.YtaagjnlkinojcaaGreatW27
namespace Go.Proofs.YtaagjnlkinojcaaGreat
set_option linter.unusedSimpArgs false
set_option linter.unusedVariables false
open Go.Sx
set_option maxRecDepth 10000
theorem z8T (o:List Int) (hl:o.length≤16000000):Ct Tryz.prog 212 [I64 o] [] (lv (.bool (z0W o))) [] []:=by
 obtain⟨R,hR⟩:∃ R,z0W o=R:=⟨_,rfl⟩
 rw[hR]
 refine z00 Tryz.func212 rfl rfl rfl rfl rfl (fun E hn hb=>?_)
 repeat (refine nst ?_)
 refine z06 rfl (by simp) (fun hc=>?_) (fun hc=>?_)
 ·have:R=false:=by
   rw[←hR]
   simp at hc
   match o,hc with
   | [],_=>rfl
   | [_],_=>rfl
   | a::b::t,hc=>simp at hc; rw[z1O,if_pos (by omega)]
  subst this
  repeat (refine nst ?_)
  exact rt1 []
 ·have hlen:2≤o.length∧o.length≤32:=by simp at hc; omega
  repeat (refine nst ?_)
  refine z09 (St.le_of (l:= [(0,I64 o),(3,lv (.int .i64 ((0:Nat):Int)))]) (h:= []) (by refine⟨?_,?_⟩<;>(repeat' (first | exact trivial | exact rfl | refine⟨?_,?_⟩))<;>first | exact rfl |(simp; done) | skip)) ?_
  refine z0k (ι:= {i:Nat//i≤o.length∧(o.take i).all inR=true}) (fun i=>St.of [(0,I64 o),(3,lv (.int .i64 (i.1:Int)))] []) (fun i=>o.length -i.1) (fun i=>?_) ⟨0,by omega,by simp⟩
  obtain⟨i,hi,ha⟩:=i
  dsimp only
  repeat (refine nst ?_)
  refine z06 rfl (by simp) (fun hc=>?_) (fun hc=>?_)
  ·have hi2:i<o.length:=by simpa using hc
   repeat (refine nst ?_)
   refine z06 rfl (by simp) (fun h2=>?_) (fun h2=>?_)
   ·have:R=false:=by
     rw[←hR]
     have hg:=zee hi2 (by simp[Bool.cond_eq_ite] at h2; simp only[inR,Bool.not_eq_false',Bool.or_eq_true,decide_eq_true_eq]; rw[List.getD_eq_getElem?_getD]; omega)
     match o,hlen,hg with
     | a::b::t,hlen,hg=>rw[z1O,hg]; simp
    subst this
    repeat (refine nst ?_)
    exact rt1 []
   ·repeat (refine nst ?_)
    (refine z08 ?i1 ?i2 ?i3; (case i1=>exact⟨i+1,by omega,zcJ hi2 ha (by simp[Bool.cond_eq_ite] at h2; simp only[inR,Bool.not_eq_true',Bool.or_eq_false_iff,decide_eq_false_iff_not]; rw[List.getD_eq_getElem?_getD]; omega)⟩); (case i2=>(dsimp only; omega)); (case i3=>refine St.le_of ⟨?_,?_⟩<;>(repeat' (first | exact trivial | exact rfl | refine⟨?_,?_⟩))<;>first | exact rfl |(simp; done) | skip))
  ·have:i=o.length:=by simp at hc; omega
   subst this
   rw[List.take_length] at ha
   clear hi
   match o,hlen,ha,hR with
   | a::b::t,hlen,ha,hR=>
   have h30:¬ 30<t.length:=by simp at hlen; omega
   have ha0:0≤a:=by
    have:=List.all_eq_true.1 ha a (by simp)
    simp[inR] at this
    exact this.1
   rw[z1O,if_neg h30,ha,if_neg (by simp)] at hR
   repeat (refine nst ?_)
   refine rt2 [] ?_ ?_
   ·refine congrArg (fun x=>lv (.bool x)) (?_:(bif bif decide (a<2) then decide (b<40) else false then true else bif a==2 then decide (b≤2147483567) else false)=R)
    rw[←hR]
    by_cases h0:a=0∨a=1
    ·have h1:a<2:=by omega
     have h2:(a==2)=false:=by simp; omega
     rw[if_pos h0,h2]
     simp[h1]
    ·have h1:¬ a<2:=by omega
     rw[if_neg h0]
     by_cases h2:a=2
     ·simp[h2]
     ·simp[h1,h2]
   ·trivial
theorem zfn (a b:List Int) (ha:a.length≤16000000) (hb':b.length≤16000000):Ct Tryz.prog 140 [I64 a,I64 b] [] (lv (.bool (decide (a=b)))) [] []:=by
 refine z00 Tryz.func140 rfl rfl rfl rfl rfl (fun E hn hb=>?_)
 repeat (refine nst ?_)
 refine z1C (zgn a b ha hb') rfl rfl rfl (by rw[hn]; rfl) rfl rfl (by exact vcs) rfl rfl rfl ?_
 repeat (refine nst ?_)
 refine rt2 [] ?_ ?_
 ·refine congrArg (fun x=>lv (.bool x)) (?_:(z0z a b==0)=decide (a=b))
  rw[Bool.eq_iff_iff]
  simp[zaf]
 ·trivial
theorem z4z {n:Nat} (h:n<128):z19 n= [(n:Int)]:=by
 have h1:n/128=0:=Nat.div_eq_of_lt h
 have h2:n%128=n:=Nat.mod_eq_of_lt h
 rw[z19,h1,h2]
 rfl
theorem zaT:∀(k n:Nat),n<128^k→z3L (k+1) n=z3L k n
 | 0,n,h=>by
   have:n=0:=by simpa using h
   subst this
   rfl
 | k+1,n,h=>by
   have h1:n/128<128^k:=by
    rw[Nat.pow_succ] at h
    exact Nat.div_lt_of_lt_mul (by rw[Nat.mul_comm]; exact h)
   have:=zaT k (n/128) h1
   unfold z3L
   split
   ·rfl
   ·rw[this]
theorem z71 {n:Nat} (h:¬ n<128) (h0:n<4294967296):∃ L,z19 (n/128)=L++ [((n/128%128:Nat):Int)]∧z19 n=(L++ [((n/128%128:Nat):Int)+128])++ [((n%128:Nat):Int)]:=by
 refine⟨(z3L 5 (n/128/128)).reverse,by simp[z19],?_⟩
 have h1:n/128≠0:=by omega
 have h2:=zaT 4 (n/128/128) (by omega)
 rw[z19]
 conv=>lhs; unfold z3L
 rw[if_neg h1,←h2]
 simp
set_option maxHeartbeats 1000000 in
theorem z5R:∀(k n:Nat),n<128^(k+1)→n<4294967296→Ct Tryz.prog 238 [lv (.int .i64 (n:Int))] [] (.c (.own 0 1 0 (z19 n).length)) [] [.row (.ints .u8 (z19 n))]
 | k,n,h,h0=>by
   by_cases h1:n<128
   ·rw[z4z h1]
    refine z00 Tryz.func238 rfl rfl rfl rfl rfl (fun E hn hb=>?_)
    repeat (refine nst ?_)
    refine z06 rfl (by simp) (fun hc=>?_) (fun hc=>?_)
    ·repeat (refine nst ?_)
     refine z1X rfl rfl rfl (by rw[hn]; rfl) (z0n Tryz.underlying28 rfl rfl) (z2R) (by exact vcs) ⟨by decide,rfl⟩ ?_
     repeat (refine nst ?_)
     exact rt1 [72]
    ·simp at hc; omega
   ·obtain⟨k,rfl⟩:∃ k',k=k'+1:=by
     cases k with
     | zero=>simp at h; omega
     | succ k=>exact⟨k,rfl⟩
    have ih:=z5R k (n/128) (by
     rw[Nat.pow_succ] at h
     exact Nat.div_lt_of_lt_mul (by rw[Nat.mul_comm]; exact h)) (by omega)
    obtain⟨L,e1,e2⟩:=z71 h1 h0
    have hLl:L.length≤10:=by
     have:=z5M (n/128)
     rw[e1] at this
     simp at this
     omega
    have hx:n/128%128<128:=Nat.mod_lt _ (by decide)
    rw[e1] at ih
    rw[e2]
    generalize n/128%128=x at*
    have el:(L++ [((x:Nat):Int)]).length=L.length+1:=by simp
    rw[el] at ih
    have hq:(n:Int)/128=((n/128:Nat):Int):=by omega
    have hm:(n:Int)%128=((n%128:Nat):Int):=by omega
    refine z00 Tryz.func238 rfl rfl rfl rfl rfl (fun E hn hb=>?_)
    repeat (refine nst ?_)
    refine z06 rfl (by simp) (fun hc=>?_) (fun hc=>?_)
    ·simp at hc; omega
    ·repeat (refine nst ?_)
     rw[hq]
     have ei:0+((((L.length+1:Nat):Int)) -1).toNat=L.length:=by omega
     have eg:(L++ [((x:Nat):Int)]).getD L.length 0=x:=by simp
     have es:(L++ [((x:Nat):Int)]).set L.length ((x:Int)+128)=L++ [(x:Int)+128]:=by simp
     refine zav ih rfl rfl rfl (by rw[hn]; rfl) rfl rfl (by exact vcs) rfl rfl rfl ?_
     repeat (refine nst ?_)
     rw[ei,eg]
     repeat (refine nst ?_)
     refine zcb rfl rfl rfl rfl rfl (by exact vcs) rfl (by rw[zdC]) (by first |(simp; done) |(simp; omega) |(simp at*; omega)) ?_
     rw[es]
     repeat (refine nst ?_)
     rw[hm]
     refine z1X rfl rfl rfl (by rw[hn]; rfl) (z0n Tryz.underlying28 rfl rfl) (z2R) (by exact vcs) ⟨by decide,rfl⟩ ?_
     repeat (refine nst ?_)
     have ef:(L++ [(x:Int)+128]++ [((n%128:Nat):Int)]).length=L.length+1+1:=by simp
     have eL:L.length+1=(L++ [(x:Int)+128]).length:=by simp
     rw[eL]
     refine z2I rfl rfl rfl rfl rfl rfl (by rw[hn]; rfl) (z0n Tryz.underlying28 rfl rfl) rfl rfl rfl rfl (by exact vcs) (by first | rfl |(simp; done) |(simp; omega)) ⟨by first |(simp; done) |(simp; omega) |(simp at*; omega),by decide⟩ ?_
     repeat (refine nst ?_)
     exact rt1 [75]
theorem zgA (o:List Int) (hr:z0W o=true):Ct Tryz.prog 229 [I64 o] [] (B8 (z0v (z0Y o))) [] []:=by
 obtain⟨a,b,t,rfl,ha0,ha2,hb0,hb1,ht,hx,_⟩:=z3W hr
 have h1:=z5R 4 (40*a+b).toNat (by omega) (by omega)
 rw[Int.toNat_of_nonneg (by omega)] at h1
 show Ct Tryz.prog 229 [I64 (a::b::t)] [] (B8 (z0v ((40*a+b)::t))) [] []
 have e0:z0v ((40*a+b)::t)=z19 (40*a+b).toNat++z0v t:=rfl
 rw[e0]
 generalize hA:z19 (40*a+b).toNat=A at*
 have hAl:A.length≤6:=by rw[←hA]; exact z5M _
 refine z00 Tryz.func229 rfl rfl rfl rfl rfl (fun E hn hb=>?_)
 repeat (refine nst ?_)
 refine z06 rfl (by simp) (fun hc=>?_) (fun hc=>?_)
 ·simp at hc; omega
 repeat (refine nst ?_)
 refine z2V 8 (by kernel_rfl) (by kernel_rfl) (by kernel_rfl) (by rw[hn]; rfl) rfl rfl ?_
 repeat (first | refine dp1 ?_ | refine dg1 ?_ | refine z1i ?_)
 repeat (refine nst ?_)
 refine zav h1 rfl rfl rfl (by rw[hn]; rfl) rfl rfl (by exact vcs) rfl rfl rfl ?_
 repeat (refine nst ?_)
 have hlen:(a::b::t).length=t.length+2:=rfl
 rw[hlen]
 refine z09 (St.le_of (l:= [(0,I64 (a::b::t)),(3,.c (.own 80 1 0 A.length)),(4,lv (.int .i64 (((0:Nat):Int)+2)))]) (h:= [(80,.row (.ints .u8 A))]) (by refine⟨?_,?_⟩<;>(repeat' (first | exact trivial | exact rfl | refine⟨?_,?_⟩))<;>first | exact rfl |(simp; done) | skip)) ?_
 refine z0k (ι:= {s:Nat×List Int//s.1≤t.length∧s.2=A++z0v (t.take s.1)}) (fun s=>St.of [(0,I64 (a::b::t)),(3,.c (.own 80 1 0 s.1.2.length)),(4,lv (.int .i64 ((s.1.1:Int)+2)))] [(80,.row (.ints .u8 s.1.2))]) (fun s=>t.length -s.1.1) (fun s=>?_) ⟨(0,A),by dsimp only; omega,by simp[z0v]⟩
 obtain⟨⟨i,acc⟩,hi,he⟩:=s
 dsimp only at hi he ⊢
 repeat (refine nst ?_)
 refine z06 rfl (by simp) (fun hc=>?_) (fun hc=>?_)
 ·have hi2:i<t.length:=by
   have h3:(i:Int)+2<((a::b::t).length:Int):=by simpa using hc
   rw[hlen] at h3
   omega
  have hal:acc.length≤1000:=by
   have:=z69 (t.take i)
   rw[he]
   simp at this ⊢
   omega
  have hxi:t.getD i 0 ∈ t:=by rw[List.getD_eq_getElem?_getD,List.getElem?_eq_getElem hi2]; exact List.getElem_mem hi2
  have hxb:=hx _ hxi
  have hnext:=z9x hi2
  have hd:=z5R 4 (t.getD i 0).toNat (by omega) (by omega)
  rw[Int.toNat_of_nonneg hxb.1] at hd
  have hl2:=z5M (t.getD i 0).toNat
  have hg:(a::b::t).getD (((i:Int)+2).toNat) 0=t.getD i 0:=by
   have:((i:Int)+2).toNat=i+2:=by omega
   rw[this]; rfl
  generalize hB:z19 (t.getD i 0).toNat=B at*
  generalize hX:t.getD i 0=X at*
  repeat (refine nst ?_)
  rw[hg]
  refine zav hd rfl rfl rfl (by rw[hn]; rfl) rfl rfl (by exact vcs) rfl rfl rfl ?_
  repeat (refine nst ?_)
  refine z2I rfl rfl rfl rfl rfl rfl (by rw[hn]; rfl) (z0n Tryz.underlying28 rfl rfl) rfl rfl rfl rfl (by exact vcs) (by first | rfl |(simp; done) |(simp; omega)) ⟨by first |(simp; done) |(simp; omega) |(simp at*; omega),by decide⟩ ?_
  repeat (refine nst ?_)
  have e2:(i:Int)+2+1=((i+1:Nat):Int)+2:=by omega
  rw[e2]
  rw[List.take_length]
  (refine z08 ?i1 ?i2 ?i3; (case i1=>exact⟨(i+1,acc++B),by dsimp only; omega,by dsimp only; rw[hnext,he,List.append_assoc]⟩); (case i2=>(dsimp only; omega)); (case i3=>refine St.le_of ⟨?_,?_⟩<;>(repeat' (first | exact trivial | exact rfl | refine⟨?_,?_⟩))<;>first | exact rfl |(simp; done) | skip))
 ·have hi2:i=t.length:=by
   have h3:¬ (i:Int)+2<((a::b::t).length:Int):=by simpa using hc
   rw[hlen] at h3
   omega
  subst hi2
  rw[List.take_length] at he
  subst he
  generalize A++z0v t=X at*
  repeat (refine nst ?_)
  refine zcD 80 [(2,B8 X)] rfl hb ⟨⟨rfl,rfl,rfl,by simp,by simp⟩,rfl⟩ ?_
  exact rt1 []
def zco (o:List Int):List Int×Int:=if z0W o then(z0v (z0Y o),0) else([],1)
def z1o (o:List Int):List Int×Int:=if z0W o then(z05 (ofT 6) (z0v (z0Y o)),0) else([],1)
theorem z3N {o:List Int} (hr:z0W o=true):(z0v (z0Y o)).length≤186:=by
 obtain⟨a,b,t,rfl,_,_,_,_,ht,_⟩:=z3W hr
 have:=z69 (z0Y (a::b::t))
 simp[z0Y] at*
 omega
theorem zkB (o:List Int) (hl:o.length≤16000000):Ct Tryz.prog 236 [I64 o] [] (.tup [B8 (zco o).1,lv (.int .i64 (zco o).2)]) [] []:=by
 have h:=zio o hl
 unfold z8p at h
 unfold zco
 split at h
 ·rename_i hr; rw[if_pos hr]; exact h
 ·rename_i hr; rw[if_neg hr]; exact h
theorem zaU (o:List Int) (hl:o.length≤16000000):Ct Tryz.prog 222 [I64 o] [] (.tup [B8 (z1o o).1,lv (.int .i64 (z1o o).2)]) [] []:=by
 have hc:=zkB o hl
 by_cases hr:z0W o=true
 ·have e1:zco o=(z0v (z0Y o),0):=if_pos hr
  have e2:z1o o=(z05 (ofT 6) (z0v (z0Y o)),0):=if_pos hr
  have hlen:=z3N hr
  rw[e1] at hc
  rw[e2]
  generalize z0v (z0Y o)=X at*
  have hwr:=z6N (ofT 6) [X] (by decide) (by simp) (by simp; omega)
  rw[show [X].flatten=X by simp] at hwr
  have hof:=z1d 6
  generalize ofT 6=t at*
  generalize z05 t X=Y at*
  refine z00 Tryz.func222 rfl rfl rfl rfl rfl (fun E hn hb=>?_)
  repeat (refine nst ?_)
  refine z1C (hc) rfl rfl rfl (by rw[hn]; rfl) rfl rfl (by exact vcs) rfl rfl rfl ?_
  repeat (refine nst ?_)
  refine z06 rfl (by simp) (fun h1=>?_) (fun h1=>?_)
  ·simp at h1
  repeat (refine nst ?_)
  refine z1C (hof) rfl rfl rfl (by rw[hn]; rfl) rfl rfl (by exact vcs) rfl rfl rfl ?_
  repeat (refine nst ?_)
  refine z1b (z0L (z8q (d:=(.recs 1 [[.ints .u8 X]])) rfl (z0n Tryz.underlying249 rfl rfl) zbR rfl (by exact vcs) rfl ⟨by decide,by decide,rfl,rfl⟩) rfl) (by rw[hn]; rfl) ?_
  refine z1C (hwr) rfl rfl rfl (by rw[hn]; rfl) rfl rfl (by exact vcs) rfl rfl rfl ?_
  repeat (refine nst ?_)
  exact rt1 []
 ·have e1:zco o=([],1):=if_neg hr
  have e2:z1o o=([],1):=if_neg hr
  rw[e1] at hc
  rw[e2]
  refine z00 Tryz.func222 rfl rfl rfl rfl rfl (fun E hn hb=>?_)
  repeat (refine nst ?_)
  refine z1C (hc) rfl rfl rfl (by rw[hn]; rfl) rfl rfl (by exact vcs) rfl rfl rfl ?_
  repeat (refine nst ?_)
  refine z06 rfl (by simp) (fun h1=>?_) (fun h1=>?_)
  ·repeat (refine nst ?_)
   refine zcG [] rfl (by simp) (r':= .tup [B8 [],lv (.int .i64 1)]) ⟨.inr ⟨rfl,.inl ⟨_,rfl⟩⟩,.inl rfl,trivial⟩ ⟨rfl,trivial,trivial,rfl⟩ hb rfl trivial
  ·simp at h1
theorem zdY:∀ {a b:List Int},a.length=b.length→(z1r a b=a.length↔a=b)
 | [],[],_=>by simp[z1r]
 | [],_::_,h=>by simp at h
 | _::_,[],h=>by simp at h
 | x::a,y::b,h=>by
   have ih:=zdY (a:=a) (b:=b) (by simpa using h)
   unfold z1r
   by_cases e:x=y
   ·subst e
    rw[if_pos rfl]
    simp[ih]
   ·rw[if_neg e]
    simp[e]
theorem zis (a b:List Int) (ha:a.length≤16000000) (hb':b.length≤16000000):Ct Tryz.prog 100 [B8 a,B8 b] [] (lv (.bool (decide (a=b)))) [] []:=by
 have hp:=zbk a b ha hb'
 by_cases hl:a.length=b.length
 ·have he:=zdY hl
  refine z00 Tryz.func100 rfl rfl rfl rfl rfl (fun E hn hb=>?_)
  repeat refine nx ?_
  refine rt2 [] (congrArg (fun x=>lv (.bool x)) ?_) trivial
  by_cases e:a=b
  ·have h2:=he.2 e
   subst e
   simp[h2]
  ·have h2:¬ z1r a b=a.length:=fun h=>e (he.1 h)
   simp[e,hl]
   rw[hl] at h2
   omega
 ·have hne:a≠b:=fun e=>hl (by rw[e])
  rw[decide_eq_false hne]
  refine z00 Tryz.func100 rfl rfl rfl rfl rfl (fun E hn hb=>?_)
  repeat refine nx ?_
  refine rt2 [] (congrArg (fun x=>lv (.bool x)) ?_) trivial
  have:¬ ((a.length:Int)=b.length):=by omega
  simp
  intro h
  exact absurd h this
theorem zit {l:List Int} {p q:Nat} {N:Int} (hw:WfB l) (h:z0Z l 3 p 0=(N,q,0)):31≤N∧N<2097152∧l.drop p=z53 N++l.drop q:=by
 have w1:=z4F hw p
 have w2:=z4F hw (p+1)
 have w3:=z4F hw (p+1+1)
 have e1:=z27 l p
 have e2:=z27 l (p+1)
 have e3:=z27 l (p+1+1)
 rw[z0Z] at h
 generalize l.getD p 0=d1 at*
 by_cases h1:p<l.length
 ·rw[if_pos h1] at h
  by_cases c1:2=2∧d1=128
  ·rw[if_pos c1] at h; simp at h
  ·rw[if_neg c1] at h
   by_cases c2:d1<128
   ·rw[if_pos c2] at h
    by_cases c3:128*0+d1%128<31
    ·rw[if_pos c3] at h; simp at h
    ·rw[if_neg c3] at h
     simp only[Prod.mk.injEq] at h
     obtain⟨rfl,rfl,_⟩:=h
     refine⟨by omega,by omega,?_⟩
     unfold z53
     rw[if_neg (by omega),if_neg (by omega),e1 h1,show(128*0+d1%128)%128=d1 by omega]
     rfl
   ·rw[if_neg c2] at h
    rw[z0Z] at h
    generalize l.getD (p+1) 0=d2 at*
    by_cases h2:p+1<l.length
    ·rw[if_pos h2,if_neg (by omega)] at h
     by_cases c4:d2<128
     ·rw[if_pos c4] at h
      by_cases c5:128*(128*0+d1%128)+d2%128<31
      ·rw[if_pos c5] at h; simp at h
      ·rw[if_neg c5] at h
       simp only[Prod.mk.injEq] at h
       obtain⟨rfl,rfl,_⟩:=h
       refine⟨by omega,by omega,?_⟩
       have hN:128*(128*0+d1%128)+d2%128=128*(d1 -128)+d2:=by omega
       rw[hN]
       unfold z53
       rw[if_neg (by omega),if_pos (by omega),e1 h1,e2 h2,show 128+(128*(d1 -128)+d2)/128%128=d1 by omega,show(128*(d1 -128)+d2)%128=d2 by omega]
       rfl
     ·rw[if_neg c4] at h
      rw[z0Z] at h
      generalize l.getD (p+1+1) 0=d3 at*
      by_cases h3:p+1+1<l.length
      ·rw[if_pos h3,if_neg (by omega)] at h
       by_cases c6:d3<128
       ·rw[if_pos c6] at h
        by_cases c7:128*(128*(128*0+d1%128)+d2%128)+d3%128<31
        ·rw[if_pos c7] at h; simp at h
        ·rw[if_neg c7] at h
         simp only[Prod.mk.injEq] at h
         obtain⟨rfl,rfl,_⟩:=h
         refine⟨by omega,by omega,?_⟩
         have hN:128*(128*(128*0+d1%128)+d2%128)+d3%128=16384*(d1 -128)+128*(d2 -128)+d3:=by omega
         rw[hN]
         unfold z53
         rw[if_pos (by omega),if_pos (by omega),e1 h1,e2 h2,e3 h3,show 128+(16384*(d1 -128)+128*(d2 -128)+d3)/16384=d1 by omega,show 128+(16384*(d1 -128)+128*(d2 -128)+d3)/128%128=d2 by omega,show(16384*(d1 -128)+128*(d2 -128)+d3)%128=d3 by omega]
         rfl
       ·rw[if_neg c6] at h
        rw[z0Z] at h
        split at h<;>simp at h
      ·rw[if_neg h3] at h; simp at h
    ·rw[if_neg h2] at h; simp at h
 ·rw[if_neg h1] at h; simp at h
theorem ziu {l:List Int} {p q:Nat} {t:z0h} (hw:WfB l) (h:z0P l p=(t,q,0)):z0q t=true∧l.drop p=tgL t++l.drop q:=by
 have hr:z35 l p=(t,q,0):=by
  unfold z0P z0U at h
  split at h
  ·exact h
  ·rename_i h1
   simp only[Prod.mk.injEq] at h
   exact absurd h.2.2 h1
 have w1:=z4F hw p
 have e1:=z27 l p
 unfold z35 at hr
 generalize l.getD p 0=c at*
 by_cases hp:p<l.length
 ·rw[if_pos hp] at hr
  have hfi:∀ n:Int,z1h (c/64,n,decide (c/32%2=1))=64*(c/64)+32*(c/32%2):=by
   intro n
   unfold z1h
   dsimp only
   by_cases hb:c/32%2=1
   ·rw[decide_eq_true hb,hb]; rfl
   ·rw[decide_eq_false hb]
    have:c/32%2=0:=by omega
    rw[this]; rfl
  by_cases h31:c%32=31
  ·rw[if_pos h31] at hr
   generalize hn:z0Z l 3 (p+1) 0=R at*
   obtain⟨N,q2,e⟩:=R
   simp only[Prod.mk.injEq] at hr
   obtain⟨rfl,rfl,rfl⟩:=hr
   obtain⟨n1,n2,n3⟩:=zit hw hn
   refine⟨by simp[z0q]; omega,?_⟩
   have hR:=zaG N.toNat (by omega) (by omega)
   rw[show((N.toNat:Nat):Int)=N by omega] at hR
   unfold tgL
   dsimp only
   rw[if_neg (by omega),hfi,←hR,e1 hp,n3]
   have:64*(c/64)+32*(c/32%2)+31=c:=by omega
   rw[this]
   rfl
  ·rw[if_neg h31] at hr
   simp only[Prod.mk.injEq] at hr
   obtain⟨rfl,rfl,_⟩:=hr
   refine⟨by simp[z0q]; omega,?_⟩
   unfold tgL
   dsimp only
   rw[if_pos (by omega),hfi,e1 hp]
   have:64*(c/64)+32*(c/32%2)+c%32=c:=by omega
   rw[this]
   rfl
 ·rw[if_neg hp] at hr; simp at hr
theorem ziv {l:List Int} {p q:Nat} {n:Int} (hw:WfB l) (h:lenP l p=(n,q,0)):0≤n∧n≤16777216∧l.drop p=z0I n.toNat++l.drop q:=by
 have hr:z3v l p=(n,q,0):=by
  unfold lenP z0U at h
  split at h
  ·exact h
  ·rename_i h1
   simp only[Prod.mk.injEq] at h
   exact absurd h.2.2 h1
 have w0:=z4F hw p
 have w1:=z4F hw (p+1)
 have w2:=z4F hw (p+1+1)
 have w3:=z4F hw (p+1+1+1)
 have w4:=z4F hw (p+1+1+1+1)
 have e0:=z27 l p
 have e1:=z27 l (p+1)
 have e2:=z27 l (p+1+1)
 have e3:=z27 l (p+1+1+1)
 have e4:=z27 l (p+1+1+1+1)
 unfold z3v at hr
 by_cases hp:p<l.length
 ·rw[if_pos hp] at hr
  generalize l.getD p 0=c at*
  by_cases h1:c<128
  ·rw[if_pos h1] at hr
   simp only[Prod.mk.injEq] at hr
   obtain⟨rfl,rfl,_⟩:=hr
   refine⟨by omega,by omega,?_⟩
   unfold z0I
   rw[if_pos (by omega),e0 hp,show((c.toNat:Nat):Int)=c by omega]
   rfl
  ·rw[if_neg h1] at hr
   by_cases h2:c=128∨132<c
   ·rw[if_pos h2] at hr; simp at hr
   ·rw[if_neg h2] at hr
    unfold z2Q at hr
    by_cases h3:l.length<p+1+(c%128).toNat
    ·rw[if_pos h3] at hr; simp at hr
    ·rw[if_neg h3] at hr
     generalize l.getD (p+1) 0=d1 at*
     generalize l.getD (p+1+1) 0=d2 at*
     generalize l.getD (p+1+1+1) 0=d3 at*
     generalize l.getD (p+1+1+1+1) 0=d4 at*
     have hc:c=129∨c=130∨c=131∨c=132:=by omega
     have fin:∀(k:Nat) (D:List Int),l.drop (p+1)=D++l.drop (p+1+k)→D.length=k→(c%128).toNat=k→(0≤z0F 0 D)→(128≤z0F 0 D→z0F 0 D≤16777216→d1≠0→z2E (z0F 0 D)=c::D)→0≤n∧n≤16777216∧l.drop p=z0I n.toNat++l.drop q:=by
      intro k D hD hk hck h0 href
      rw[hck,show(l.drop (p+1)).take k=D by rw[hD,←hk,List.take_left]] at hr
      by_cases h4:d1=0∨z0F 0 D<128
      ·rw[if_pos h4] at hr; simp at hr
      ·rw[if_neg h4] at hr
       by_cases h5:16777216<z0F 0 D
       ·rw[if_pos h5] at hr; simp at hr
       ·rw[if_neg h5] at hr
        simp only[Prod.mk.injEq] at hr
        obtain⟨rfl,rfl,_⟩:=hr
        refine⟨h0,by omega,?_⟩
        rw[←z8d _ (by omega),show(((z0F 0 D).toNat:Nat):Int)=z0F 0 D by omega,href (by omega) (by omega) (by omega),e0 hp,hD]
        rfl
     rcases hc with rfl | rfl | rfl | rfl
     ·have q1:p+1<l.length:=by omega
      refine fin 1 [d1] (by rw[e1 q1]; rfl) rfl (by decide) (by simp[z0F]; omega) (fun a1 a2 a3=>?_)
      simp only[z0F] at a1 a2 ⊢
      unfold z2E
      rw[if_neg (by omega),if_pos (by omega)]
      simp
     ·have q1:p+1<l.length:=by omega
      have q2:p+1+1<l.length:=by omega
      refine fin 2 [d1,d2] (by rw[e1 q1,e2 q2]; rfl) rfl (by decide) (by simp[z0F]; omega) (fun a1 a2 a3=>?_)
      simp only[z0F] at a1 a2 ⊢
      unfold z2E
      rw[if_neg (by omega),if_neg (by omega),if_pos (by omega)]
      simp; omega
     ·have q1:p+1<l.length:=by omega
      have q2:p+1+1<l.length:=by omega
      have q3:p+1+1+1<l.length:=by omega
      refine fin 3 [d1,d2,d3] (by rw[e1 q1,e2 q2,e3 q3]; rfl) rfl (by decide) (by simp[z0F]; omega) (fun a1 a2 a3=>?_)
      simp only[z0F] at a1 a2 ⊢
      unfold z2E
      rw[if_neg (by omega),if_neg (by omega),if_neg (by omega),if_pos (by omega)]
      simp; omega
     ·have q1:p+1<l.length:=by omega
      have q2:p+1+1<l.length:=by omega
      have q3:p+1+1+1<l.length:=by omega
      have q4:p+1+1+1+1<l.length:=by omega
      refine fin 4 [d1,d2,d3,d4] (by rw[e1 q1,e2 q2,e3 q3,e4 q4]; rfl) rfl (by decide) (by simp[z0F]; omega) (fun a1 a2 a3=>?_)
      simp only[z0F] at a1 a2 ⊢
      unfold z2E
      rw[if_neg (by omega),if_neg (by omega),if_neg (by omega),if_neg (by omega)]
      simp; omega
 ·rw[if_neg hp] at hr; simp at hr
theorem z6d {l:List Int} {p q:Nat} {t:z0h} {n:Int} (hw:WfB l) (h:z0d l p=((t,n),q,0)):z0q t=true∧0≤n∧n≤16777216∧l.drop p=tgL t++(z0I n.toNat++l.drop q):=by
 have hr:z36 l p=((t,n),q,0):=by
  unfold z0d z0U at h
  split at h
  ·exact h
  ·rename_i h1
   simp only[Prod.mk.injEq] at h
   exact absurd h.2.2 h1
 unfold z36 at hr
 generalize ht:z0P l p=T at*
 obtain⟨t1,q1,e1⟩:=T
 dsimp only at hr
 by_cases he:e1=0
 ·subst he
  rw[if_pos rfl] at hr
  generalize hl:lenP l q1=L at*
  obtain⟨n1,q2,e2⟩:=L
  simp only[Prod.mk.injEq] at hr
  obtain⟨⟨rfl,rfl⟩,rfl,rfl⟩:=hr
  obtain⟨a1,a2⟩:=ziu hw ht
  obtain⟨b1,b2,b3⟩:=ziv hw hl
  exact⟨a1,b1,b2,by rw[a2,b3]⟩
 ·rw[if_neg he] at hr
  simp only[Prod.mk.injEq] at hr
  exact absurd hr.2.2 he
theorem z2Y {l x:List Int} {p q:Nat} {t:z0h} (hw:WfB l) (h:z0r l p t=(x,q,0)):z0q t=true∧l.drop p=z05 t x++l.drop q:=by
 rw[ziB] at h
 generalize hr:z0d l p=R at*
 obtain⟨⟨t1,n⟩,q1,e⟩:=R
 dsimp only at h
 by_cases he:e=0
 ·subst he
  rw[if_pos rfl] at h
  by_cases h1:t1=t
  ·rw[if_pos h1] at h
   subst h1
   by_cases h2:(l.length:Int) -(q1:Int)<n
   ·rw[if_pos h2] at h; simp at h
   ·rw[if_neg h2] at h
    simp only[Prod.mk.injEq] at h
    obtain⟨rfl,rfl,_⟩:=h
    obtain⟨a1,a2,a3,a4⟩:=z6d hw hr
    refine⟨a1,?_⟩
    have hlen:((l.drop q1).take n.toNat).length=n.toNat:=by simp; omega
    unfold z05
    rw[hlen,a4]
    simp only[List.append_assoc]
    rw[←List.drop_drop,List.take_append_drop]
  ·rw[if_neg h1] at h; simp at h
 ·rw[if_neg he] at h; simp at h; omega
end Go.Proofs.YtaagjnlkinojcaaGreat

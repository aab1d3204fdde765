/-
  Chapter 03: numbers that are read. The conditions: rows of at most a thousand bytes.
-/
import Derived.Test.YtaagjnlkinojcaaGreatSxN
import Derived.Lib.Builder
import Derived.Lib.AppendStr
import Derived.Lib.UnsafeStr
import Derived.Laws.Externs
import Derived.Test.YtaagjnlkinojcaaGreatTy
import Derived.Test.YtaagjnlkinojcaaGreatC6
import Derived.Test.YtaagjnlkinojcaaGreatSxQ
import Derived.Test.YtaagjnlkinojcaaGreatC4
namespace Go.Sx
open Go
set_option linter.unusedVariables false
set_option linter.unusedSimpArgs false
section
variable {P:Program} {E:Env} {ops:Array Oper} {Q:Exit→Act→World→Prop} {rest:List Oper} {o:Oper} {σ:St}
theorem SRb.one {β:Nat→Option Nat} {F:Nat→Prop} {a:Act} {w w':World} {d:Nat} {x:Av} {v:Value} (h:SRb E β F σ a w) (hd:d<E.n) (hx:AvR (fun _=>none) (fun _=>False) w' x v) (hpl:z44 x=true) (hk:Keep E.w0 E.M w')
  (hsz:w.heap.size≤w'.heap.size):SR E (St.of [(d,x)] []) (a.put (some d) v) w':=by
 refine⟨fun i=>if i<E.nb then E.β0 i else none,fun _=>False,fun i=>?_,by simpa[Act.put] using h.sz,h.df,fun j=>?_,fun i j g hi=>?_,fun i g hi=>?_,fun i g e=>?_,fun b hb=>hb.elim,hk,fun i hi=>if_pos hi,h.nbl⟩
 ·have hlt:d<a.tmps.size:=by rw[h.sz]; exact hd
  by_cases hi:i=d
  ·subst hi
   have:=z9A (β':=fun i=>if i<E.nb then E.β0 i else none) (F':=fun _=>False) (w':=w') hpl hx
   simpa[St.of,z5L,Act.put,hlt] using this
  ·have:(St.of [(d,x)] []).tm i= .c .un:=by
    simp only[St.of,z5L]
    split
    ·rename_i e; exact absurd (Nat.eq_of_beq_eq_true e) hi
    ·rfl
   rw[this]
   exact .any _
 ·exact trivial
 ·exact absurd rfl hi
 ·exact absurd rfl hi
 ·by_cases hi:i<E.nb
  ·rw[if_pos hi] at e
   have:=h.lt i g (by rw[h.bb i hi]; exact e)
   omega
  ·rw[if_neg hi] at e; cases e
end
end Go.Sx
namespace Go.Proofs.YtaagjnlkinojcaaGreat
set_option linter.unusedSimpArgs false
set_option linter.unusedVariables false
open Go.Sx
set_option maxRecDepth 10000
abbrev I64 (l:List Int):Av:= .c (.lf (.ints .i64 l))
def inR (x:Int):Bool:=!(decide (x<0)||decide (2147483647<x))
def z0W:List Int→Bool
 | a::b::t=>if 30<t.length then false else if(a::b::t).all inR=false then false else
    if a=0∨a=1 then decide (b<40) else if a=2 then decide (b≤2147483567) else false
 | _=>false
theorem z1O (a b:Int) (t:List Int):z0W (a::b::t)=if 30<t.length then false else if(a::b::t).all inR=false then false else
 if a=0∨a=1 then decide (b<40) else if a=2 then decide (b≤2147483567) else false:=rfl
theorem zee {l:List Int} {i:Nat} (h:i<l.length) (h1:inR (l.getD i 0)=false):l.all inR=false:=by
 rw[List.all_eq_false]
 refine⟨l[i],List.getElem_mem h,?_⟩
 rw[List.getD_eq_getElem?_getD,List.getElem?_eq_getElem h] at h1
 simpa using h1
theorem zcJ {l:List Int} {i:Nat} (h:i<l.length) (h0:(l.take i).all inR=true) (h1:inR (l.getD i 0)=true):(l.take (i+1)).all inR=true:=by
 rw[List.take_add_one,List.all_append,h0,List.getElem?_eq_getElem h]
 rw[List.getD_eq_getElem?_getD,List.getElem?_eq_getElem h] at h1
 simpa using h1
theorem zbb (o:List Int) (hl:o.length≤16000000):Ct Tryz.prog 241 [I64 o] [] (lv (.bool (z0W o))) [] []:=by
 obtain⟨R,hR⟩:∃ R,z0W o=R:=⟨_,rfl⟩
 rw[hR]
 refine z00 Tryz.func241 rfl rfl rfl rfl rfl (fun E hn hb=>?_)
 repeat (refine nst ?_)
 refine z06 rfl (by simp) (fun hc=>?_) (fun hc=>?_)
 ·have:R=false:=by
   rw[←hR]
   simp at hc
   match o,hc with
   | [],_=>rfl
   | [_],_=>rfl
   | a::b::t,hc=>simp at hc; rw[z1O,if_pos (by omega)]
  subst this
  repeat (refine nst ?_)
  exact rt1 []
 ·have hlen:2≤o.length∧o.length≤32:=by simp at hc; omega
  repeat (refine nst ?_)
  refine z09 (St.le_of (l:= [(0,I64 o),(13,I64 o),(14,lv (.int .i64 (o.length:Int))),(15,lv (.int .i64 ((0:Nat):Int)))]) (h:= []) (by refine⟨?_,?_⟩<;>(repeat' (first | exact trivial | exact rfl | refine⟨?_,?_⟩))<;>first | exact rfl |(simp; done) | skip)) ?_
  refine z0k (ι:= {i:Nat//i≤o.length∧(o.take i).all inR=true}) (fun i=>St.of [(0,I64 o),(13,I64 o),(14,lv (.int .i64 (o.length:Int))),(15,lv (.int .i64 (i.1:Int)))] []) (fun i=>o.length -i.1) (fun i=>?_) ⟨0,by omega,by simp⟩
  obtain⟨i,hi,ha⟩:=i
  dsimp only
  repeat (refine nst ?_)
  refine z06 rfl (by simp) (fun hc=>?_) (fun hc=>?_)
  ·have hi2:i<o.length:=by simpa using hc
   repeat (refine nst ?_)
   refine z06 rfl (by simp) (fun h2=>?_) (fun h2=>?_)
   ·have:R=false:=by
     rw[←hR]
     have hg:=zee hi2 (by simp[Bool.cond_eq_ite] at h2; simp only[inR,Bool.not_eq_false',Bool.or_eq_true,decide_eq_true_eq]; rw[List.getD_eq_getElem?_getD]; omega)
     match o,hlen,hg with
     | a::b::t,hlen,hg=>rw[z1O,hg]; simp
    subst this
    repeat (refine nst ?_)
    exact rt1 []
   ·repeat (refine nst ?_)
    (refine z08 ?i1 ?i2 ?i3; (case i1=>exact⟨i+1,by omega,zcJ hi2 ha (by simp[Bool.cond_eq_ite] at h2; simp only[inR,Bool.not_eq_true',Bool.or_eq_false_iff,decide_eq_false_iff_not]; rw[List.getD_eq_getElem?_getD]; omega)⟩); (case i2=>(dsimp only; omega)); (case i3=>refine St.le_of ⟨?_,?_⟩<;>(repeat' (first | exact trivial | exact rfl | refine⟨?_,?_⟩))<;>first | exact rfl |(simp; done) | skip))
  ·have:i=o.length:=by simp at hc; omega
   subst this
   rw[List.take_length] at ha
   clear hi
   match o,hlen,ha,hR with
   | a::b::t,hlen,ha,hR=>
   have h30:¬ 30<t.length:=by simp at hlen; omega
   rw[z1O,if_neg h30,ha,if_neg (by simp)] at hR
   repeat (refine nst ?_)
   refine z06 rfl (by simp) (fun h0=>?_) (fun h0=>?_)
   ·have h0':a=0:=by simpa using h0
    rw[if_pos (.inl h0')] at hR
    subst hR
    repeat (refine nst ?_)
    refine z06 rfl (by simp) (fun h1=>?_) (fun h1=>?_)
    ·repeat (refine nst ?_)
     exact rt1 []
    ·rw[h0] at h1; simp at h1
   ·have h0':a≠0:=by simpa using h0
    repeat (refine nst ?_)
    refine z06 rfl (by simp) (fun h1=>?_) (fun h1=>?_)
    ·have h1':a=1:=by simpa using h1
     rw[if_pos (.inr h1')] at hR
     subst hR
     repeat (refine nst ?_)
     exact rt1 []
    ·have h1':a≠1:=by simpa using h1
     rw[if_neg (by omega)] at hR
     repeat (refine nst ?_)
     refine z06 rfl (by simp) (fun h2=>?_) (fun h2=>?_)
     ·have h2':a=2:=by simpa using h2
      rw[if_pos h2'] at hR
      subst hR
      repeat (refine nst ?_)
      exact rt1 []
     ·have h2':a≠2:=by simpa using h2
      rw[if_neg h2'] at hR
      subst hR
      repeat (refine nst ?_)
      exact rt1 []
def nxA:List Int→Nat→Int→Bool→Int×Int×Nat
 | [],p,n,f=>(0,6,p)
 | x::r,p,n,f=>if f=true∧x=128 then(0,6,p+1) else if 2147483647<128*n+x%128 then(0,2,p+1) else if x<128 then(128*n+x%128,0,p+1) else nxA r (p+1) (128*n+x%128) false
theorem z27 (l:List Int) (p:Nat) (h:p<l.length):l.drop p=l.getD p 0::l.drop (p+1):=by
 rw[List.drop_eq_getElem_cons h,List.getD_eq_getElem?_getD,List.getElem?_eq_getElem h]
 rfl
theorem z4F {l:List Int} (h:WfB l) (p:Nat):0≤l.getD p 0∧l.getD p 0<256:=by
 rw[List.getD_eq_getElem?_getD]
 cases hx:l[p]? with
 | none=>exact⟨by simp,by simp⟩
 | some x=>exact h x (List.mem_of_getElem? hx)
theorem z5Y:∀(r:List Int) (p:Nat) (n:Int) (f:Bool),p≤(nxA r p n f).2.2∧(nxA r p n f).2.2≤p+r.length∧(r≠ []→p<(nxA r p n f).2.2)
 | [],p,n,f=>by simp[nxA]
 | x::r,p,n,f=>by
   have ih:=z5Y r (p+1) (128*n+x%128) false
   unfold nxA
   simp only[List.length_cons]
   split
   ·dsimp only; exact⟨by omega,by omega,fun _=>by omega⟩
   ·split
    ·dsimp only; exact⟨by omega,by omega,fun _=>by omega⟩
    ·split
     ·dsimp only; exact⟨by omega,by omega,fun _=>by omega⟩
     ·exact⟨by omega,by omega,fun _=>by omega⟩
theorem z6I:∀(r:List Int) (p:Nat) (n:Int) (f:Bool),0≤n→(∀ x ∈ r,0≤x∧x<256)→0≤(nxA r p n f).1∧(nxA r p n f).1≤2147483647
 | [],p,n,f,_,_=>by simp[nxA]
 | x::r,p,n,f,h,hw=>by
   have hx:=hw x (List.mem_cons_self ..)
   have ih:=z6I r (p+1) (128*n+x%128) false (by omega) fun y hy=>hw y (List.mem_cons_of_mem _ hy)
   unfold nxA
   split
   ·simp
   ·split
    ·simp
    ·split
     ·dsimp only; omega
     ·exact ih
theorem zef (l:List Int) (p0:Nat) (hp:p0≤l.length) (hl:l.length≤16000000) (hw:WfB l):
  Ct Tryz.prog 227 [.c (.ptr 0 0)] [z04 l p0] (.tup [lv (.int .i64 (nxA (l.drop p0) p0 0 true).1),lv (.int .i64 (nxA (l.drop p0) p0 0 true).2.1)]) [z04 l (nxA (l.drop p0) p0 0 true).2.2] []:=by
 obtain⟨R,hR⟩:∃ R,nxA (l.drop p0) p0 0 true=R:=⟨_,rfl⟩
 rw[hR]
 obtain⟨v,e,q⟩:=R
 refine z00 Tryz.func227 rfl rfl rfl rfl rfl (fun E hn hb=>?_)
 repeat refine nx ?_
 refine z09 (St.le_of (l:= [(0,.c (.ptr 0 0)),(4,lv (.int .i64 0)),(5,lv (.int .i64 ((0:Nat):Int)))]) (h:= [(0,z04 l p0)]) (by refine⟨?_,?_⟩<;>(repeat' (first | exact trivial | exact rfl | refine⟨?_,?_⟩))<;>first | exact rfl |(simp; done) | skip)) ?_
 refine z0k (ι:= {q':Nat×Int×Nat//q'.1≤l.length∧0≤q'.2.1∧q'.2.1≤2147483647∧q'.2.2≤q'.1∧nxA (l.drop q'.1) q'.1 q'.2.1 (decide (q'.2.2=0))=(v,e,q)}) (fun s=>St.of [(0,.c (.ptr 0 0)),(4,lv (.int .i64 s.1.2.1)),(5,lv (.int .i64 (s.1.2.2:Int)))] [(0,z04 l s.1.1)]) (fun s=>l.length -s.1.1) (fun s=>?_) ⟨(p0,0,0),hp,by simp,by simp,Nat.zero_le _,hR⟩
 obtain⟨⟨p,n,i⟩,h1,h2,h3,h4,h5⟩:=s
 dsimp only
 simp only at h1 h2 h3 h4 h5
 by_cases hlt:p<l.length
 ·have hb1:=z8h l p hlt hl
  have hx:=z4F hw p
  rw[z27 l p hlt] at h5
  unfold nxA at h5
  generalize l.getD p 0=x at*
  by_cases c1:i=0∧x=128
  ·obtain⟨rfl,rfl⟩:=c1
   rw[if_pos (by simp)] at h5
   simp only[Prod.mk.injEq] at h5
   obtain⟨rfl,rfl,rfl⟩:=h5
   repeat refine nx ?_
   exact rt1 []
  ·rw[if_neg (by simpa using c1)] at h5
   have hm:0≤x%128∧x%128<128:=by omega
   repeat refine nx ?_
   rw[zdd hx,or7 n (x%128) (by omega) hm]
   by_cases c2:2147483647<128*n+x%128
   ·rw[if_pos c2] at h5
    simp only[Prod.mk.injEq] at h5
    obtain⟨rfl,rfl,rfl⟩:=h5
    repeat refine nx ?_
    exact rt1 []
   ·rw[if_neg c2] at h5
    by_cases c3:x<128
    ·rw[if_pos c3] at h5
     simp only[Prod.mk.injEq] at h5
     obtain⟨rfl,rfl,rfl⟩:=h5
     repeat refine nx ?_
     exact rt1 []
    ·rw[if_neg c3] at h5
     repeat refine nx ?_
     refine z08 ⟨(p+1,128*n+x%128,i+1),by dsimp only; omega,by dsimp only; omega,by dsimp only; omega,by dsimp only; omega,by simpa using h5⟩ (by dsimp only; omega) (St.le_of ⟨⟨rfl,rfl,rfl⟩,rfl⟩)
 ·obtain rfl:p=l.length:=by omega
  have hb2:=z6P l hl
  rw[List.drop_length] at h5
  simp only[nxA,Prod.mk.injEq] at h5
  obtain⟨rfl,rfl,rfl⟩:=h5
  repeat refine nx ?_
  exact rt1 []
def z3I (n:Int):List Int:=if n<80 then [n/40,n%40] else [2,n -80]
theorem ziX (n:Int) (h:0≤n∧n≤2147483647):Ct Tryz.prog 228 [lv (.int .i64 n)] [] (.c (.own 0 1 0 (z3I n).length)) [] [.row (.ints .i64 (z3I n))]:=by
 refine z00 Tryz.func228 rfl rfl rfl rfl rfl (fun E hn hb=>?_)
 unfold z3I
 by_cases c:n<80
 ·rw[if_pos c]
  repeat (first | refine lo1 ?_ | refine nx ?_)
  exact rt1 [73]
 ·rw[if_neg c]
  repeat (first | refine lo1 ?_ | refine nx ?_)
  exact rt1 [76]
def prA:Nat→List Int→Nat→List Int→List Int×Int
 | 0,l,p,o=>(o,0)
 | k+1,l,p,o=>
   if p<l.length then
    let q:=nxA (l.drop p) p 0 true
    if q.2.1=0 then(if o.length=32 then([],2) else prA k l q.2.2 (o++(if o.length=0 then z3I q.1 else [q.1]))) else([],q.2.1)
   else(o,0)
theorem z7c (l:List Int):∀(k k' p:Nat) (o:List Int),l.length -p<k→l.length -p<k'→prA k l p o=prA k' l p o
 | 0,k',p,o,h,_=>by omega
 | k+1,0,p,o,_,h=>by omega
 | k+1,k'+1,p,o,h,h'=>by
   unfold prA
   by_cases hp:p<l.length
   ·rw[if_pos hp,if_pos hp]
    dsimp only
    have hn:l.drop p≠ []:=by rw[z27 l p hp]; simp
    have:=(z5Y (l.drop p) p 0 true).2.2 hn
    split
    ·split
     ·rfl
     ·exact z7c l k k' _ _ (by omega) (by omega)
    ·rfl
   ·rw[if_neg hp,if_neg hp]
def z2J (l:List Int):List Int×Int:=if l= [] then([],6) else prA (l.length+1) l 0 []
theorem zbc (l:List Int) (hl:l.length≤16000000) (hw:WfB l):Ct Tryz.prog 210 [B8 l] [] (.tup [I64 (z2J l).1,lv (.int .i64 (z2J l).2)]) [] []:=by
 have hcn:=z2l l hl
 have hnx:=zef l 0 (Nat.zero_le _) hl hw
 have hle:=z5Y (l.drop 0) 0 0 true
 have hrg:=z6I (l.drop 0) 0 0 true (by omega) (fun x hx=>hw x (by simpa using hx))
 by_cases h0:l= []
 ·subst h0
  have e:nxA (([]:List Int).drop 0) 0 0 true=(0,6,0):=rfl
  rw[e] at hnx
  dsimp only at hnx
  have e2:z2J []=([],6):=rfl
  rw[e2]
  refine z00 Tryz.func210 rfl rfl rfl rfl rfl (fun E hn hb=>?_)
  repeat refine nx ?_
  exact rtU []
 obtain⟨R,hR⟩:∃ R,z2J l=R:=⟨_,rfl⟩
 rw[hR]
 have hlen:0<l.length:=by
  cases l with
  | nil=>exact absurd rfl h0
  | cons=>simp
 unfold z2J at hR
 rw[if_neg h0] at hR
 unfold prA at hR
 rw[if_pos hlen] at hR
 generalize nxA (l.drop 0) 0 0 true=X at*
 obtain⟨n,e,q⟩:=X
 obtain⟨ro,re⟩:=R
 dsimp only at*
 have hsp:=ziX n hrg
 by_cases he:e=0
 ·subst he
  rw[if_pos rfl,if_neg (by simp),if_pos (by rfl),List.nil_append] at hR
  have hs2:(z3I n).length=2:=by unfold z3I; split<;>rfl
  have hq:0<q:=hle.2.2 (by simpa using h0)
  have hql:q≤l.length:=by have:=hle.2.1; simp at this; omega
  rw[z7c l l.length (l.length+1) q _ (by omega) (by omega)] at hR
  refine z00 Tryz.func210 rfl rfl rfl rfl rfl (fun E hn hb=>?_)
  repeat refine nx ?_
  refine z09 (St.le_of (l:= [(4,.c (.ptr 75 0)),(7,.c (.own 85 1 0 (z3I n).length))]) (h:= [(75,z04 l q),(85,.row (.ints .i64 (z3I n)))]) (by refine⟨?_,?_⟩<;>(repeat' (first | exact trivial | exact rfl | refine⟨?_,?_⟩))<;>first | exact rfl |(simp; done) | skip)) ?_
  refine z0k (ι:= {s:Nat×List Int//s.1≤l.length∧s.2≠ []∧s.2.length≤32∧prA (l.length+1) l s.1 s.2=(ro,re)}) (fun s=>St.of [(4,.c (.ptr 75 0)),(7,.c (.own 85 1 0 s.1.2.length))] [(75,z04 l s.1.1),(85,.row (.ints .i64 s.1.2))]) (fun s=>l.length -s.1.1) (fun s=>?_) ⟨(q,z3I n),hql,by intro h; dsimp only at h; rw[h] at hs2; simp at hs2,by dsimp only; omega,hR⟩
  obtain⟨⟨p,o⟩,k1,k2,k3,k4⟩:=s
  dsimp only
  simp only at k1 k2 k3 k4
  have hlf:=z0S l p k1 (by omega)
  unfold prA at k4
  by_cases hp:p<l.length
  ·rw[if_pos hp] at k4
   have hnx2:=zef l p k1 hl hw
   have hle2:=z5Y (l.drop p) p 0 true
   have hrg2:=z6I (l.drop p) p 0 true (by omega) (fun x hx=>hw x (List.mem_of_mem_drop hx))
   have hp2:p<(nxA (l.drop p) p 0 true).2.2:=hle2.2.2 (by rw[z27 l p hp]; simp)
   have hp3:(nxA (l.drop p) p 0 true).2.2≤l.length:=by have:=hle2.2.1; simp at this; omega
   generalize nxA (l.drop p) p 0 true=X at*
   obtain⟨n',e',q'⟩:=X
   dsimp only at*
   by_cases he2:e'=0
   ·subst he2
    rw[if_pos rfl] at k4
    by_cases h32:o.length=32
    ·rw[if_pos h32] at k4
     simp only[Prod.mk.injEq] at k4
     obtain⟨rfl,rfl⟩:=k4
     repeat refine nx ?_
     exact rtU []
    ·rw[if_neg h32] at k4
     have em:¬ o.length=0:=fun h=>k2 (List.eq_nil_of_length_eq_zero h)
     rw[if_neg em] at k4
     rw[z7c l l.length (l.length+1) q' _ (by omega) (by omega)] at k4
     repeat refine nx ?_
     refine z08 ⟨(q',o++ [n']),hp3,by simp,by simp; omega,k4⟩ (by dsimp only; omega) (St.le_of ⟨⟨rfl,rfl⟩,⟨rfl,rfl⟩⟩)
   ·rw[if_neg he2] at k4
    simp only[Prod.mk.injEq] at k4
    obtain⟨rfl,rfl⟩:=k4
    repeat refine nx ?_
    exact rtU []
  ·rw[if_neg hp] at k4
   obtain rfl:p=l.length:=by omega
   simp only[Prod.mk.injEq] at k4
   obtain⟨rfl,rfl⟩:=k4
   repeat refine nx ?_
   refine z31 2 ?_
   exact rtU []
 ·rw[if_neg he] at hR
  simp only[Prod.mk.injEq] at hR
  obtain⟨rfl,rfl⟩:=hR
  refine z00 Tryz.func210 rfl rfl rfl rfl rfl (fun E hn hb=>?_)
  repeat refine nx ?_
  exact rtU []
theorem W_up {P:Program} {E:Env} {Q:Exit→Act→World→Prop} {σ:St} {c:Code} (i:Nat) (x:Av) (hx:z80 (σ.tm i) x) (h:W P E c Q (σ.set i x)):W P E c Q σ:=by
 intro a w hS
 obtain⟨β,F,hS⟩:=hS
 refine h a w ⟨β,F,fun j=>?_,hS.sz,hS.df,hS.hp,hS.inj,hS.own,hS.lt,hS.fr,hS.keep,hS.bb,hS.nbl⟩
 have:=hS.tm j
 simp only[St.set]
 by_cases hj:j=i
 ·subst hj
  simpa using hx.sound this
 ·simpa[hj] using this
theorem z0H (l:List Int) (p:Nat) (t:z0h):(z0r l p t).1.length≤l.length∧∀ x ∈ (z0r l p t).1,x ∈ l:=by
 unfold z0r z0U
 split
 ·unfold z23
  split
  ·split
   ·split
    ·simp
    ·constructor
     ·simp; omega
     ·intro x hx
      exact List.mem_of_mem_drop (List.mem_of_mem_take hx)
   ·simp
  ·simp
 ·simp
def ofT (n:Int):z0h:=(0,n,decide (n=16∨n=17))
theorem z1d (n:Int):Ct Tryz.prog 63 [lv (.int .i64 n)] [] (z2c (ofT n)) [] []:=by
 refine z00 Tryz.func63 rfl rfl rfl rfl rfl (fun E hn hb=>?_)
 repeat (refine nst ?_)
 refine z0E rfl rfl rfl (by rw[hn]; rfl) rfl z3U ?_
 repeat (refine nst ?_)
 refine z0m rfl rfl rfl rfl rfl (by exact vcs) rfl rfl rfl (by rw[z1f]; rfl) (by rw[z2G]; rfl) rfl rfl ?_
 repeat (refine nst ?_)
 refine rt2 [] ?_ ?_
 ·show Av.agg [.lf (.v (.int .i64 0)),.lf (.v (.int .i64 n)),.lf (.v (.bool (cond (n==16) true (n==17))))]=_
  have e:(cond (n==16) true (n==17))=decide (n=16∨n=17):=by
   by_cases h1:n=16<;>by_cases h2:n=17<;>simp[h1,h2]
  rw[e]
  rfl
 ·trivial
def z0q (t:z0h):Bool:=decide (0≤t.1∧t.1≤3∧0≤t.2.1∧t.2.1<2097152)
theorem z82 (t:z0h):Ct Tryz.prog 216 [z2c t] [] (lv (.bool (z0q t))) [] []:=by
 refine z00 Tryz.func216 rfl rfl rfl rfl rfl (fun E hn hb=>?_)
 repeat (refine nst ?_)
 refine z1v rfl rfl rfl (by rw[hn]; rfl) rfl (by exact vcs) rfl rfl ?_
 repeat (refine nst ?_)
 refine rt2 [] ?_ ?_
 ·show lv (.bool (cond (cond (cond (decide (0≤t.1)) (decide (t.1≤3)) false) (decide (0≤t.2.1)) false) (decide (t.2.1<2097152)) false))=_
  have e:(cond (cond (cond (decide (0≤t.1)) (decide (t.1≤3)) false) (decide (0≤t.2.1)) false) (decide (t.2.1<2097152)) false)=z0q t:=by
   unfold z0q
   by_cases h1:0≤t.1<;>by_cases h2:t.1≤3<;>by_cases h3:0≤t.2.1<;>by_cases h4:t.2.1<2097152<;>simp[h1,h2,h3,h4]
  rw[e]
  rfl
 ·trivial
end Go.Proofs.YtaagjnlkinojcaaGreat

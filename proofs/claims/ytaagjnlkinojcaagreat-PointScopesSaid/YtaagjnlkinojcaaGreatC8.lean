/-
  Chapter 02, the document's answer: tags, lengths, contents. The conditions: rows of at most a million bytes.
-/
import Derived.Test.YtaagjnlkinojcaaGreatO3
import Derived.Test.YtaagjnlkinojcaaGreatSxQ
import Derived.Test.YtaagjnlkinojcaaGreatC4
namespace Go.Proofs.YtaagjnlkinojcaaGreat
set_option linter.unusedSimpArgs false
set_option linter.unusedVariables false
open Go.Sx
set_option maxRecDepth 10000
def nxA:List Int→Nat→Int→Bool→Int×Int×Nat
 | [],p,n,f=>(0,6,p)
 | x::r,p,n,f=>if f=true∧x=128 then(0,6,p+1) else if 2147483647<128*n+x%128 then(0,2,p+1) else if x<128 then(128*n+x%128,0,p+1) else nxA r (p+1) (128*n+x%128) false
theorem z25 (l:List Int) (p:Nat) (h:p<l.length):l.drop p=l.getD p 0::l.drop (p+1):=by
 rw[List.drop_eq_getElem_cons h,List.getD_eq_getElem?_getD,List.getElem?_eq_getElem h]
 rfl
theorem z4E {l:List Int} (h:WfB l) (p:Nat):0≤l.getD p 0∧l.getD p 0<256:=by
 rw[List.getD_eq_getElem?_getD]
 cases hx:l[p]? with
 | none=>exact⟨by simp,by simp⟩
 | some x=>exact h x (List.mem_of_getElem? hx)
theorem z5S:∀(r:List Int) (p:Nat) (n:Int) (f:Bool),p≤(nxA r p n f).2.2∧(nxA r p n f).2.2≤p+r.length∧(r≠ []→p<(nxA r p n f).2.2)
 | [],p,n,f=>by simp[nxA]
 | x::r,p,n,f=>by
   have ih:=z5S r (p+1) (128*n+x%128) false
   unfold nxA
   simp only[List.length_cons]
   split
   ·dsimp only; exact⟨by omega,by omega,fun _=>by omega⟩
   ·split
    ·dsimp only; exact⟨by omega,by omega,fun _=>by omega⟩
    ·split
     ·dsimp only; exact⟨by omega,by omega,fun _=>by omega⟩
     ·exact⟨by omega,by omega,fun _=>by omega⟩
theorem z6x:∀(r:List Int) (p:Nat) (n:Int) (f:Bool),0≤n→(∀ x ∈ r,0≤x∧x<256)→0≤(nxA r p n f).1∧(nxA r p n f).1≤2147483647
 | [],p,n,f,_,_=>by simp[nxA]
 | x::r,p,n,f,h,hw=>by
   have hx:=hw x (List.mem_cons_self ..)
   have ih:=z6x r (p+1) (128*n+x%128) false (by omega) fun y hy=>hw y (List.mem_cons_of_mem _ hy)
   unfold nxA
   split
   ·simp
   ·split
    ·simp
    ·split
     ·dsimp only; omega
     ·exact ih
theorem ze4 (l:List Int) (p0:Nat) (hp:p0≤l.length) (hl:l.length≤16000000) (hw:WfB l):
  Ct Tryz.prog 227 [.c (.ptr 0 0)] [z05 l p0] (.tup [lv (.int .i64 (nxA (l.drop p0) p0 0 true).1),lv (.int .i64 (nxA (l.drop p0) p0 0 true).2.1)]) [z05 l (nxA (l.drop p0) p0 0 true).2.2] []:=by
 obtain⟨R,hR⟩:∃ R,nxA (l.drop p0) p0 0 true=R:=⟨_,rfl⟩
 rw[hR]
 obtain⟨v,e,q⟩:=R
 refine z00 Tryz.func227 rfl rfl rfl rfl rfl (fun E hn hb=>?_)
 repeat refine nx ?_
 refine z09 (St.le_of (l:= [(0,.c (.ptr 0 0)),(4,lv (.int .i64 0)),(5,lv (.int .i64 ((0:Nat):Int)))]) (h:= [(0,z05 l p0)]) (by refine⟨?_,?_⟩<;>(repeat' (first | exact trivial | exact rfl | refine⟨?_,?_⟩))<;>first | exact rfl |(simp; done) | skip)) ?_
 refine z0h (ι:= {q':Nat×Int×Nat//q'.1≤l.length∧0≤q'.2.1∧q'.2.1≤2147483647∧q'.2.2≤q'.1∧nxA (l.drop q'.1) q'.1 q'.2.1 (decide (q'.2.2=0))=(v,e,q)}) (fun s=>St.of [(0,.c (.ptr 0 0)),(4,lv (.int .i64 s.1.2.1)),(5,lv (.int .i64 (s.1.2.2:Int)))] [(0,z05 l s.1.1)]) (fun s=>l.length -s.1.1) (fun s=>?_) ⟨(p0,0,0),hp,by simp,by simp,Nat.zero_le _,hR⟩
 obtain⟨⟨p,n,i⟩,h1,h2,h3,h4,h5⟩:=s
 dsimp only
 simp only at h1 h2 h3 h4 h5
 by_cases hlt:p<l.length
 ·have hb1:=z8e l p hlt hl
  have hx:=z4E hw p
  rw[z25 l p hlt] at h5
  unfold nxA at h5
  generalize l.getD p 0=x at*
  by_cases c1:i=0∧x=128
  ·obtain⟨rfl,rfl⟩:=c1
   rw[if_pos (by simp)] at h5
   simp only[Prod.mk.injEq] at h5
   obtain⟨rfl,rfl,rfl⟩:=h5
   repeat refine nx ?_
   exact rt1 []
  ·rw[if_neg (by simpa using c1)] at h5
   have hm:0≤x%128∧x%128<128:=by omega
   repeat refine nx ?_
   rw[zde hx,or7 n (x%128) (by omega) hm]
   by_cases c2:2147483647<128*n+x%128
   ·rw[if_pos c2] at h5
    simp only[Prod.mk.injEq] at h5
    obtain⟨rfl,rfl,rfl⟩:=h5
    repeat refine nx ?_
    exact rt1 []
   ·rw[if_neg c2] at h5
    by_cases c3:x<128
    ·rw[if_pos c3] at h5
     simp only[Prod.mk.injEq] at h5
     obtain⟨rfl,rfl,rfl⟩:=h5
     repeat refine nx ?_
     exact rt1 []
    ·rw[if_neg c3] at h5
     repeat refine nx ?_
     refine z07 ⟨(p+1,128*n+x%128,i+1),by dsimp only; omega,by dsimp only; omega,by dsimp only; omega,by dsimp only; omega,by simpa using h5⟩ (by dsimp only; omega) (St.le_of ⟨⟨rfl,rfl,rfl⟩,rfl⟩)
 ·obtain rfl:p=l.length:=by omega
  have hb2:=z6L l hl
  rw[List.drop_length] at h5
  simp only[nxA,Prod.mk.injEq] at h5
  obtain⟨rfl,rfl,rfl⟩:=h5
  repeat refine nx ?_
  exact rt1 []
def z3F (n:Int):List Int:=if n<80 then [n/40,n%40] else [2,n -80]
theorem ziC (n:Int) (h:0≤n∧n≤2147483647):Ct Tryz.prog 228 [lv (.int .i64 n)] [] (.c (.own 0 1 0 (z3F n).length)) [] [.row (.ints .i64 (z3F n))]:=by
 refine z00 Tryz.func228 rfl rfl rfl rfl rfl (fun E hn hb=>?_)
 unfold z3F
 by_cases c:n<80
 ·rw[if_pos c]
  repeat (first | refine lo1 ?_ | refine nx ?_)
  exact rt1 [73]
 ·rw[if_neg c]
  repeat (first | refine lo1 ?_ | refine nx ?_)
  exact rt1 [76]
def prA:Nat→List Int→Nat→List Int→List Int×Int
 | 0,l,p,o=>(o,0)
 | k+1,l,p,o=>
   if p<l.length then
    let q:=nxA (l.drop p) p 0 true
    if q.2.1=0 then(if o.length=32 then([],2) else prA k l q.2.2 (o++(if o.length=0 then z3F q.1 else [q.1]))) else([],q.2.1)
   else(o,0)
theorem z79 (l:List Int):∀(k k' p:Nat) (o:List Int),l.length -p<k→l.length -p<k'→prA k l p o=prA k' l p o
 | 0,k',p,o,h,_=>by omega
 | k+1,0,p,o,_,h=>by omega
 | k+1,k'+1,p,o,h,h'=>by
   unfold prA
   by_cases hp:p<l.length
   ·rw[if_pos hp,if_pos hp]
    dsimp only
    have hn:l.drop p≠ []:=by rw[z25 l p hp]; simp
    have:=(z5S (l.drop p) p 0 true).2.2 hn
    split
    ·split
     ·rfl
     ·exact z79 l k k' _ _ (by omega) (by omega)
    ·rfl
   ·rw[if_neg hp,if_neg hp]
def z2w (l:List Int):List Int×Int:=if l= [] then([],6) else prA (l.length+1) l 0 []
theorem zb9 (l:List Int) (hl:l.length≤16000000) (hw:WfB l):Ct Tryz.prog 210 [B8 l] [] (.tup [I64 (z2w l).1,lv (.int .i64 (z2w l).2)]) [] []:=by
 have hcn:=z2f l hl
 have hnx:=ze4 l 0 (Nat.zero_le _) hl hw
 have hle:=z5S (l.drop 0) 0 0 true
 have hrg:=z6x (l.drop 0) 0 0 true (by omega) (fun x hx=>hw x (by simpa using hx))
 by_cases h0:l= []
 ·subst h0
  have e:nxA (([]:List Int).drop 0) 0 0 true=(0,6,0):=rfl
  rw[e] at hnx
  dsimp only at hnx
  have e2:z2w []=([],6):=rfl
  rw[e2]
  refine z00 Tryz.func210 rfl rfl rfl rfl rfl (fun E hn hb=>?_)
  repeat refine nx ?_
  exact rtU []
 obtain⟨R,hR⟩:∃ R,z2w l=R:=⟨_,rfl⟩
 rw[hR]
 have hlen:0<l.length:=by
  cases l with
  | nil=>exact absurd rfl h0
  | cons=>simp
 unfold z2w at hR
 rw[if_neg h0] at hR
 unfold prA at hR
 rw[if_pos hlen] at hR
 generalize nxA (l.drop 0) 0 0 true=X at*
 obtain⟨n,e,q⟩:=X
 obtain⟨ro,re⟩:=R
 dsimp only at*
 have hsp:=ziC n hrg
 by_cases he:e=0
 ·subst he
  rw[if_pos rfl,if_neg (by simp),if_pos (by rfl),List.nil_append] at hR
  have hs2:(z3F n).length=2:=by unfold z3F; split<;>rfl
  have hq:0<q:=hle.2.2 (by simpa using h0)
  have hql:q≤l.length:=by have:=hle.2.1; simp at this; omega
  rw[z79 l l.length (l.length+1) q _ (by omega) (by omega)] at hR
  refine z00 Tryz.func210 rfl rfl rfl rfl rfl (fun E hn hb=>?_)
  repeat refine nx ?_
  refine z09 (St.le_of (l:= [(4,.c (.ptr 75 0)),(7,.c (.own 85 1 0 (z3F n).length))]) (h:= [(75,z05 l q),(85,.row (.ints .i64 (z3F n)))]) (by refine⟨?_,?_⟩<;>(repeat' (first | exact trivial | exact rfl | refine⟨?_,?_⟩))<;>first | exact rfl |(simp; done) | skip)) ?_
  refine z0h (ι:= {s:Nat×List Int//s.1≤l.length∧s.2≠ []∧s.2.length≤32∧prA (l.length+1) l s.1 s.2=(ro,re)}) (fun s=>St.of [(4,.c (.ptr 75 0)),(7,.c (.own 85 1 0 s.1.2.length))] [(75,z05 l s.1.1),(85,.row (.ints .i64 s.1.2))]) (fun s=>l.length -s.1.1) (fun s=>?_) ⟨(q,z3F n),hql,by intro h; dsimp only at h; rw[h] at hs2; simp at hs2,by dsimp only; omega,hR⟩
  obtain⟨⟨p,o⟩,k1,k2,k3,k4⟩:=s
  dsimp only
  simp only at k1 k2 k3 k4
  have hlf:=z1b l p k1 (by omega)
  unfold prA at k4
  by_cases hp:p<l.length
  ·rw[if_pos hp] at k4
   have hnx2:=ze4 l p k1 hl hw
   have hle2:=z5S (l.drop p) p 0 true
   have hrg2:=z6x (l.drop p) p 0 true (by omega) (fun x hx=>hw x (List.mem_of_mem_drop hx))
   have hp2:p<(nxA (l.drop p) p 0 true).2.2:=hle2.2.2 (by rw[z25 l p hp]; simp)
   have hp3:(nxA (l.drop p) p 0 true).2.2≤l.length:=by have:=hle2.2.1; simp at this; omega
   generalize nxA (l.drop p) p 0 true=X at*
   obtain⟨n',e',q'⟩:=X
   dsimp only at*
   by_cases he2:e'=0
   ·subst he2
    rw[if_pos rfl] at k4
    by_cases h32:o.length=32
    ·rw[if_pos h32] at k4
     simp only[Prod.mk.injEq] at k4
     obtain⟨rfl,rfl⟩:=k4
     repeat refine nx ?_
     exact rtU []
    ·rw[if_neg h32] at k4
     have em:¬ o.length=0:=fun h=>k2 (List.eq_nil_of_length_eq_zero h)
     rw[if_neg em] at k4
     rw[z79 l l.length (l.length+1) q' _ (by omega) (by omega)] at k4
     repeat refine nx ?_
     refine z07 ⟨(q',o++ [n']),hp3,by simp,by simp; omega,k4⟩ (by dsimp only; omega) (St.le_of ⟨⟨rfl,rfl⟩,⟨rfl,rfl⟩⟩)
   ·rw[if_neg he2] at k4
    simp only[Prod.mk.injEq] at k4
    obtain⟨rfl,rfl⟩:=k4
    repeat refine nx ?_
    exact rtU []
  ·rw[if_neg hp] at k4
   obtain rfl:p=l.length:=by omega
   simp only[Prod.mk.injEq] at k4
   obtain⟨rfl,rfl⟩:=k4
   repeat refine nx ?_
   refine z2d 2 ?_
   exact rtU []
 ·rw[if_neg he] at hR
  simp only[Prod.mk.injEq] at hR
  obtain⟨rfl,rfl⟩:=hR
  refine z00 Tryz.func210 rfl rfl rfl rfl rfl (fun E hn hb=>?_)
  repeat refine nx ?_
  exact rtU []
theorem W_up {P:Program} {E:Env} {Q:Exit→Act→World→Prop} {σ:St} {c:Code} (i:Nat) (x:Av) (hx:z7Z (σ.tm i) x) (h:W P E c Q (σ.set i x)):W P E c Q σ:=by
 intro a w hS
 obtain⟨β,F,hS⟩:=hS
 refine h a w ⟨β,F,fun j=>?_,hS.sz,hS.df,hS.hp,hS.inj,hS.own,hS.lt,hS.fr,hS.keep,hS.bb,hS.nbl⟩
 have:=hS.tm j
 simp only[St.set]
 by_cases hj:j=i
 ·subst hj
  simpa using hx.sound this
 ·simpa[hj] using this
theorem z0H (l:List Int) (p:Nat) (t:z0g):(z0m l p t).1.length≤l.length∧∀ x ∈ (z0m l p t).1,x ∈ l:=by
 unfold z0m z0M
 split
 ·unfold z20
  split
  ·split
   ·split
    ·simp
    ·constructor
     ·simp; omega
     ·intro x hx
      exact List.mem_of_mem_drop (List.mem_of_mem_take hx)
   ·simp
  ·simp
 ·simp
def ofT (n:Int):z0g:=(0,n,decide (n=16∨n=17))
theorem z1G (n:Int):Ct Tryz.prog 63 [lv (.int .i64 n)] [] (z21 (ofT n)) [] []:=by
 refine z00 Tryz.func63 rfl rfl rfl rfl rfl (fun E hn hb=>?_)
 repeat (refine nst ?_)
 refine z0B rfl rfl rfl (by rw[hn]; rfl) rfl z3T ?_
 repeat (refine nst ?_)
 refine z0k rfl rfl rfl rfl rfl (by exact vcs) rfl rfl rfl (by rw[z1e]; rfl) (by rw[z2C]; rfl) rfl rfl ?_
 repeat (refine nst ?_)
 refine rt2 [] ?_ ?_
 ·show Av.agg [.lf (.v (.int .i64 0)),.lf (.v (.int .i64 n)),.lf (.v (.bool (cond (n==16) true (n==17))))]=_
  have e:(cond (n==16) true (n==17))=decide (n=16∨n=17):=by
   by_cases h1:n=16<;>by_cases h2:n=17<;>simp[h1,h2]
  rw[e]
  rfl
 ·trivial
def z0q (t:z0g):Bool:=decide (0≤t.1∧t.1≤3∧0≤t.2.1∧t.2.1<2097152)
theorem z7R (t:z0g):Ct Tryz.prog 216 [z21 t] [] (lv (.bool (z0q t))) [] []:=by
 refine z00 Tryz.func216 rfl rfl rfl rfl rfl (fun E hn hb=>?_)
 repeat (refine nst ?_)
 refine z1q rfl rfl rfl (by rw[hn]; rfl) rfl (by exact vcs) rfl rfl ?_
 repeat (refine nst ?_)
 refine rt2 [] ?_ ?_
 ·show lv (.bool (cond (cond (cond (decide (0≤t.1)) (decide (t.1≤3)) false) (decide (0≤t.2.1)) false) (decide (t.2.1<2097152)) false))=_
  have e:(cond (cond (cond (decide (0≤t.1)) (decide (t.1≤3)) false) (decide (0≤t.2.1)) false) (decide (t.2.1<2097152)) false)=z0q t:=by
   unfold z0q
   by_cases h1:0≤t.1<;>by_cases h2:t.1≤3<;>by_cases h3:0≤t.2.1<;>by_cases h4:t.2.1<2097152<;>simp[h1,h2,h3,h4]
  rw[e]
  rfl
 ·trivial
theorem z2h (n:Int):Ct Tryz.prog 48 [lv (.int .i64 n)] [] (z21 (ofT n)) [] []:=by
 refine z00 Tryz.func48 rfl rfl rfl rfl rfl (fun E hn hb=>?_)
 repeat (refine nst ?_)
 refine z0B rfl rfl rfl (by rw[hn]; rfl) rfl z6I ?_
 repeat (refine nst ?_)
 refine z0k rfl rfl rfl rfl rfl (by exact vcs) rfl rfl rfl (by rw[z1l]; rfl) (by rw[z2o]; rfl) rfl rfl ?_
 repeat (refine nst ?_)
 refine rt2 [] ?_ ?_
 ·show Av.agg [.lf (.v (.int .i64 0)),.lf (.v (.int .i64 n)),.lf (.v (.bool (cond (n==16) true (n==17))))]=_
  have e:(cond (n==16) true (n==17))=decide (n=16∨n=17):=by
   by_cases h1:n=16<;>by_cases h2:n=17<;>simp[h1,h2]
  rw[e]
  rfl
 ·trivial
theorem zkF (b:List Int) (p:Nat):z0S b p=if p<b.length then
  if b.getD p 0%32<31 then((b.getD p 0/64,b.getD p 0%32,decide (b.getD p 0/32%2=1)),p+1,0)
  else if(z10 b 3 (p+1) 0).2.2=0 then((b.getD p 0/64,(z10 b 3 (p+1) 0).1,decide (b.getD p 0/32%2=1)),(z10 b 3 (p+1) 0).2.1,0) else(z2R,p,(z10 b 3 (p+1) 0).2.2)
  else(z2R,p,3):=by
 unfold z0S z32
 split
 ·have:(b.getD p 0%32=31)↔¬ (b.getD p 0%32<31):=by omega
  by_cases h:b.getD p 0%32<31
  ·rw[if_pos h,if_neg (by omega)]
   rfl
  ·rw[if_neg h,if_pos (by omega)]
   unfold z0M
   split
   ·rename_i h2
    dsimp only at h2 ⊢
    rw[h2]
   ·rename_i h2
    dsimp only at h2 ⊢
 ·rfl
structure RS where
 i:Nat
 n:Int
def RS.ok (l:List Int) (p:Nat) (s:RS):Prop:=s.i≤3∧p+1+s.i≤l.length∧z10 l (3 -s.i) (p+1+s.i) s.n=z10 l 3 (p+1) 0∧0≤s.n∧(s.i=0∧s.n<1∨s.i=1∧s.n<128∨s.i=2∧s.n<16384∨s.i=3∧s.n<2097152)
abbrev zxe (r:z0g×Nat×Int):Av:= .tup [z21 r.1,lv (.int .i64 (r.2.1:Int)),lv (.int .i64 r.2.2)]
set_option maxHeartbeats 4000000 in
theorem zfp (l:List Int) (p:Nat) (hp:p≤l.length) (hl:l.length≤16000000) (hw:WfB l):Ct Tryz.prog 166 [B8 l,lv (.int .i64 (p:Int))] [] (zxe (z0S l p)) [] []:=by
 have hTT:=zkF l p
 generalize z0S l p=T at*
 refine z00 Tryz.func166 rfl rfl rfl rfl rfl (fun E hn hb=>?_)
 repeat (refine nst ?_)
 refine z0B rfl rfl rfl (by rw[hn]; rfl) rfl z6I ?_
 repeat (refine nst ?_)
 refine z06 rfl (by simp) (fun h1=>?_) (fun h1=>?_)
 ·have h1':¬ p<l.length:=by simp at h1; omega
  rw[if_neg h1'] at hTT
  subst hTT
  repeat (refine nst ?_)
  refine z0k rfl rfl rfl rfl rfl (by exact vcs) rfl rfl rfl (by rw[z1l]; rfl) (by rw[z2o]; rfl) rfl rfl ?_
  repeat (refine nst ?_)
  exact rt1 []
 have h1':p<l.length:=by simp at h1; omega
 rw[if_pos h1'] at hTT
 have hd:=z5C hw p
 repeat (refine nst ?_)
 rw[Int.toNat_natCast]
 generalize hdd:l.getD p 0=d at*
 repeat (refine nst ?_)
 refine z0B rfl rfl rfl (by rw[hn]; rfl) rfl z6I ?_
 repeat (refine nst ?_)
 refine z0k rfl rfl rfl rfl rfl (by exact vcs) rfl rfl rfl (by rw[z1l]; rfl) (by rw[z2o]; rfl) rfl rfl ?_
 repeat (refine nst ?_)
 rw[show(d/32%2==1)=decide (d/32%2=1) from by by_cases h:d/32%2=1<;>simp[h]]
 generalize decide (d/32%2=1)=mk at*
 refine z06 rfl (by simp) (fun h2=>?_) (fun h2=>?_)
 ·have h2':d%32<31:=by simpa using h2
  rw[if_pos h2'] at hTT
  subst hTT
  repeat (refine nst ?_)
  refine z0k rfl rfl rfl rfl rfl (by exact vcs) rfl rfl rfl (by rw[z1l]; rfl) (by rw[z2o]; rfl) rfl rfl ?_
  repeat (refine nst ?_)
  exact rt1 []
 have h2':¬ d%32<31:=by simpa using h2
 rw[if_neg h2'] at hTT
 have h0:RS.ok l p ⟨0,0⟩:=⟨by simp,by dsimp only; omega,rfl,by simp,by simp⟩
 repeat (refine nst ?_)
 refine z09 (St.le_of (l:= [(0,B8 l),(1,lv (.int .i64 (p:Int))),(4,.c (.ptr 68 0)),(8,.c (.ptr 72 0)),(9,lv (.int .i64 0)),(10,lv (.int .i64 1))]) (h:= [(68,.cells [.lf (.v (.int .i64 0)),.lf (.v (.int .i64 0)),.lf (.v (.bool false))]),(72,.cells [.lf (.v (.int .i64 (d/64))),.lf (.v (.int .i64 (d%32))),.lf (.v (.bool mk))])]) (by refine⟨?_,?_⟩<;>(repeat' (first | exact trivial | exact rfl | refine⟨?_,?_⟩))<;>first | exact rfl |(simp; done) | skip)) ?_
 refine z0h (ι:= {s:RS//s.ok l p}) (fun s=>St.of [(0,B8 l),(1,lv (.int .i64 (p:Int))),(4,.c (.ptr 68 0)),(8,.c (.ptr 72 0)),(9,lv (.int .i64 s.1.n)),(10,lv (.int .i64 ((s.1.i:Int)+1)))] [(68,.cells [.lf (.v (.int .i64 0)),.lf (.v (.int .i64 0)),.lf (.v (.bool false))]),(72,.cells [.lf (.v (.int .i64 (d/64))),.lf (.v (.int .i64 (d%32))),.lf (.v (.bool mk))])]) (fun s=>3 -s.1.i) (fun s=>?_) ⟨⟨0,0⟩,h0⟩
 obtain⟨⟨i,n⟩,hi,hq,hR,hn0,hn1⟩:=s
 dsimp only at hi hq hR hn0 hn1 ⊢
 generalize hRR:z10 l 3 (p+1) 0=R at hR hTT ⊢
 clear hdd hd
 repeat (refine nst ?_)
 refine z06 rfl (by simp) (fun h3=>?_) (fun h3=>?_)
 ·have h3':¬ p+1+i<l.length:=by simp at h3; omega
  rw[zdd l _ _ _ h3'] at hR
  subst hR
  subst hTT
  repeat (refine nst ?_)
  refine z0k rfl rfl rfl rfl rfl (by exact vcs) rfl rfl rfl (by rw[z1l]; rfl) (by rw[z2o]; rfl) rfl rfl ?_
  repeat (refine nst ?_)
  exact rt1 []
 have h3':p+1+i<l.length:=by simp at h3; omega
 have hd:=z5C hw (p+1+i)
 have eg:l.getD ((p:Int)+((i:Int)+1)).toNat 0=l.getD (p+1+i) 0:=by
  rw[show((p:Int)+((i:Int)+1)).toNat=p+1+i by omega]
 repeat (refine nst ?_)
 rw[eg]
 generalize hdd:l.getD (p+1+i) 0=x at*
 repeat (refine nst ?_)
 have ec:(cond (cond ((i:Int)+1==1) (x==128) false) true ((i:Int)+1==4))=decide ((i=0∧x=128)∨i=3):=by
  by_cases h4:i=0
  ·subst h4
   by_cases h5:x=128<;>simp[h5]
  ·have h6:¬ ((i:Int)+1=1):=by omega
   by_cases h7:i=3
   ·subst h7; simp
   ·have h8:¬ ((i:Int)+1=4):=by omega
    have h9:((i:Int)+1==1)=false:=by simpa using h6
    have h10:((i:Int)+1==4)=false:=by simpa using h8
    rw[h9,h10]
    simp[h4,h7]
 rw[ec]
 refine z06 rfl (by simp) (fun h4=>?_) (fun h4=>?_)
 ·have h4':(i=0∧x=128)∨i=3:=by simpa using h4
  have eR:R=(0,p+1+i+1,4):=by
   by_cases h5:i=3
   ·subst h5
    simp only[Nat.sub_self,z10,h3',if_true] at hR
    exact hR.symm
   ·have h6:i=0∧x=128:=h4'.resolve_right h5
    rw[z6h l i _ n (by omega) h3',hdd,if_pos h6] at hR
    exact hR.symm
  rw[eR,if_neg (by simp)] at hTT
  subst hTT
  repeat (refine nst ?_)
  refine z0k rfl rfl rfl rfl rfl (by exact vcs) rfl rfl rfl (by rw[z1l]; rfl) (by rw[z2o]; rfl) rfl rfl ?_
  repeat (refine nst ?_)
  exact rt1 []
 have h4':¬ ((i=0∧x=128)∨i=3):=by simpa using h4
 have hi3:i<3:=by omega
 rw[z6h l i _ n hi3 h3',hdd,if_neg (fun h=>h4' (.inl h))] at hR
 clear h4 ec
 repeat (refine nst ?_)
 generalize hmm:128*n+x%128=m at*
 refine z06 rfl (by simp) (fun h5=>?_) (fun h5=>?_)
 ·have h5':x<128:=by simpa using h5
  rw[if_pos h5'] at hR
  repeat (refine nst ?_)
  refine z06 rfl (by simp) (fun h6=>?_) (fun h6=>?_)
  ·have h6':m<31:=by simpa using h6
   rw[if_pos h6'] at hR
   rw[←hR,if_neg (by simp)] at hTT
   subst hTT
   repeat (refine nst ?_)
   refine z0k rfl rfl rfl rfl rfl (by exact vcs) rfl rfl rfl (by rw[z1l]; rfl) (by rw[z2o]; rfl) rfl rfl ?_
   repeat (refine nst ?_)
   exact rt1 []
  ·have h6':¬ m<31:=by simpa using h6
   rw[if_neg h6'] at hR
   rw[←hR,if_pos rfl] at hTT
   subst hTT
   repeat (refine nst ?_)
   refine z0k rfl rfl rfl rfl rfl (by exact vcs) rfl rfl rfl (by rw[z36]; rfl) (by rw[z7z]; rfl) rfl rfl ?_
   repeat (refine nst ?_)
   refine z0k rfl rfl rfl rfl rfl (by exact vcs) rfl rfl rfl (by rw[z1l]; rfl) (by rw[z2o]; rfl) rfl rfl ?_
   repeat (refine nst ?_)
   refine rt2 [] ?_ ?_
   ·show Av.tup [_,lv (.int .i64 ((p:Int)+((i:Int)+1)+1)),_]=_
    rw[show(p:Int)+((i:Int)+1)+1=((p+1+i+1:Nat):Int) by omega]
    rfl
   ·trivial
 ·have h5':¬ x<128:=by simpa using h5
  rw[if_neg h5'] at hR
  repeat (refine nst ?_)
  refine z07 ⟨⟨i+1,m⟩,⟨by dsimp only; omega,by dsimp only; omega,hR.trans hRR.symm,by dsimp only; omega,by dsimp only; omega⟩⟩ (by dsimp only; omega) (St.le_of ⟨⟨rfl,rfl,rfl,rfl,rfl,rfl⟩,⟨rfl,rfl⟩⟩)
end Go.Proofs.YtaagjnlkinojcaaGreat

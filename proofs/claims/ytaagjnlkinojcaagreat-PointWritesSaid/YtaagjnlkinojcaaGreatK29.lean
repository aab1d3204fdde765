/-
  Chapter 16: points compared by the document. The conditions: rows that a machine can hold.
-/
import Derived.Test.YtaagjnlkinojcaaGreatK21
import Derived.Test.YtaagjnlkinojcaaGreatQ28
import Derived.Test.YtaagjnlkinojcaaGreatK17
import Derived.Test.YtaagjnlkinojcaaGreatK8
import Derived.Test.YtaagjnlkinojcaaGreatJ4
import Derived.Test.YtaagjnlkinojcaaGreatA19
import Derived.Test.YtaagjnlkinojcaaGreatE8
namespace Go.Proofs.YtaagjnlkinojcaaGreat
set_option linter.unusedSimpArgs false
set_option linter.unusedVariables false
open Go Go.Sx
set_option maxRecDepth 10000
structure PtV (p:PtT):Prop where
 b:PtB p
 v:∀ w,p.1=some w→z2b w=true→WhV w
 q:z3J p.1=true→(z18 p.1).length≤1000000
 g:z1g p.2.2=true→(p.2.2.flatMap z0l).length≤1000000
theorem zdW (k:Int) {l:List GnT} (h:l.length=0∨(l.flatMap z0l).length≤1000000):(tnW k l).length≤1000020:=by
 unfold tnW
 by_cases h0:l.length=0
 ·rw[if_pos h0]; exact Nat.zero_le _
 ·rw[if_neg h0]
  have h1:=z0s (2,k,true) (l.flatMap z0l)
  have h2:=h.resolve_left h0
  omega
theorem zcj {p:PtT} (h:PtV p) (hk:z0A p=true):(z38 p).length≤2000100:=by
 obtain⟨k1,k2,k3⟩:=z63 hk
 have hpl:=h.q k1
 have l1:=z66 1 k2
 have l2:=zdW 2 (k3.imp id h.g)
 unfold z38
 simp only[List.length_append]
 omega
set_option maxHeartbeats 16000000 in
theorem z5j (p:PtT) (h:PtV p):Ct Tryz.prog 40 [ptA p] [] (.tup [B8 (if z0A p=true then z0o p else []),lv (.int .i64 (if z0A p=true then 0 else 1))]) [] []:=by
 have hr:=z6j p h.b
 by_cases hk:z0A p=true
 ·rw[if_pos hk,if_pos hk]
  rw[hk] at hr
  obtain⟨k1,k2,k3⟩:=z63 hk
  have hpl:=h.q k1
  have hnw:=z8L
  have hof:=z1d 16
  have ho:=z6r z2n (ofT 16) false []
  have hvw:∀ w,p.1=some w→WhV w:=fun w e=>h.v w e (by rw[e] at k1; exact k1)
  have hgl:(p.2.2.flatMap z0l).length≤1000000:=by
   rcases k3 with k | k
   ·rw[List.eq_nil_of_length_eq_zero k]; exact Nat.zero_le _
   ·exact h.g k
  have hbl:=zcj h hk
  have l1:=z66 1 k2
  have l2:=zdW 2 (.inr hgl)
  have hg:=h.b.g
  have hrl:=h.b.r
  have q0:=fun(vs:List Value) (hvs:vs.length=([]:List Value).length+(frD 1072).length)=>zbB p.1 (ofT 16) [] 1 vs k1 hvw (by omega) (Nat.zero_le _) hvs (by decide) (by decide)
  have q1:=fun(vs:List Value) (hvs:vs.length=([]:List Value).length+(frD 1072).length)=>zbA 1 p.2.1 (ofT 16) (z18 p.1) 1 vs (by decide) k2 hrl (by omega) hvs (by decide) (by decide)
  have q2:=fun(vs:List Value) (hvs:vs.length=([]:List Value).length+(frD 1072).length)=>zbH 2 p.2.2 (ofT 16) (z18 p.1++z1V 1 p.2.1) 1 vs (by decide) k3 hg (by omega) (by simp only[List.length_append]; omega) hvs (by decide) (by decide)
  simp only[List.nil_append] at q0
  have e:z38 p=z18 p.1++z1V 1 p.2.1++tnW 2 p.2.2:=by
   unfold z38
   rw[List.append_assoc]
  unfold z0o
  rw[e] at hbl ⊢
  obtain⟨o,r,g⟩:=p
  dsimp only at*
  clear h hgl hg e k3
  generalize z18 o=P at*
  generalize z1V 1 r=T1 at*
  generalize tnW 2 g=T2 at*
  have hsh:=z3z (ofT 16) z2n false (P++T1++T2) [] 0 [] rfl (by decide) (by rw[List.length_nil]; omega) (by decide)
  rw[List.nil_append] at hsh
  have hwl:=z0s (ofT 16) (P++T1++T2)
  have hby:=z6p (z05 (ofT 16) (P++T1++T2)) [] (by omega)
  generalize z05 (ofT 16) (P++T1++T2)=W at*
  rcases o with _ |⟨g',s'⟩
  all_goals
   refine z00 Tryz.func40 rfl rfl rfl rfl rfl (fun E hn hb=>?_)
   repeat refine nxw ?_
   refine duF [77] [(3,72),(3,1072),(3,77)] ?_
   repeat (first | refine nx ?_ | refine z9i [72,1072] hn ho ?_)
   refine z4x (fun a w h=>SR.cell_nil 72 4 900 rfl rfl rfl rfl rfl h) ?_
   repeat refine nx ?_
   refine z32 (nn:=2) (l:= [(1,.c (.ptr 65 0)),(4,.c (.ptr 68 0))]) (hs:= [(72,shG (ofT 16) false (.own 81 1 0 (P).length) (.own 1081 5 0 1) 0),(81,rB (P)),(1081,.fr [] (frD 1072)),(1072,rB []),(65,.cells [.lf _,.lf (.ints .i64 r),.lf (.recs 3 (gnR g))]),(68,.cells [.ptr 72 0])]) [72,900,77] 77 1081 (fun vs hv=>q0 vs hv) rfl rfl (by rw[hn]; rfl) rfl (fun _=>rfl) rfl (fun _=>rfl) (fun _=>trivial) (fun vs=>⟨rfl,⟨rfl,rfl,rfl⟩,(by simp[z0b]),rfl⟩) (fun _=>rfl) (fun vs=>by repeat' (first | exact trivial | exact rfl | exact congrArg (fun x=>lv (.int .i64 x)) (by omega) | refine⟨?_,?_⟩)) ?_
   repeat refine nx ?_
   refine z32 (nn:=2) (l:= [(1,.c (.ptr 65 0)),(4,.c (.ptr 68 0))]) (hs:= [(72,shG (ofT 16) false (.own 85 1 0 (P++T1).length) (.own 1085 5 0 1) 0),(85,rB (P++T1)),(1085,.fr [] (frD 1072)),(1072,rB []),(65,.cells [.lf _,.lf (.ints .i64 r),.lf (.recs 3 (gnR g))]),(68,.cells [.ptr 72 0])]) [72,81,1081] 1081 1085 (fun vs hv=>q1 vs hv) rfl rfl (by rw[hn]; rfl) rfl (fun _=>rfl) rfl (fun _=>rfl) (fun _=>trivial) (fun vs=>⟨rfl,⟨rfl,rfl,rfl⟩,(by simp[z0b]),rfl⟩) (fun _=>rfl) (fun vs=>by repeat' (first | exact trivial | exact rfl | exact congrArg (fun x=>lv (.int .i64 x)) (by omega) | refine⟨?_,?_⟩)) ?_
   repeat refine nx ?_
   refine z32 (nn:=2) (l:= [(1,.c (.ptr 65 0)),(4,.c (.ptr 68 0))]) (hs:= [(72,shG (ofT 16) false (.own 89 1 0 (P++T1++T2).length) (.own 1089 5 0 1) 0),(89,rB (P++T1++T2)),(1089,.fr [] (frD 1072)),(1072,rB []),(65,.cells [.lf _,.lf (.ints .i64 r),.lf (.recs 3 (gnR g))]),(68,.cells [.ptr 72 0])]) [72,85,1085] 1085 1089 (fun vs hv=>q2 vs hv) rfl rfl (by rw[hn]; rfl) rfl (fun _=>rfl) rfl (fun _=>rfl) (fun _=>trivial) (fun vs=>⟨rfl,⟨rfl,rfl,rfl⟩,(by simp[z0b]),rfl⟩) (fun _=>rfl) (fun vs=>by repeat' (first | exact trivial | exact rfl | exact congrArg (fun x=>lv (.int .i64 x)) (by omega) | refine⟨?_,?_⟩)) ?_
   repeat refine nx ?_
   refine z4U 89 72 ?_
   refine z2D [72,1089,1072] hsh rfl rfl (by rw[hn]; rfl) rfl rfl (by trivial) ⟨rfl,⟨rfl,rfl,rfl⟩,(by simp[z0b]),rfl⟩ ?_
   repeat refine nx ?_
   refine z4U 92 72 ?_
   repeat refine nx ?_
   exact rt1 []
 ·rw[if_neg hk,if_neg hk]
  rw[Bool.not_eq_true] at hk
  rw[hk] at hr
  obtain⟨o,r,g⟩:=p
  rcases o with _ |⟨g',s'⟩
  all_goals
   refine z00 Tryz.func40 rfl rfl rfl rfl rfl (fun E hn hb=>?_)
   repeat refine nx ?_
   exact rtU []
abbrev PtJ:Type:=(Bool×WhT)×List Int×List GnT
abbrev ziq (p:PtJ):List Leaf:= [.v (.bool p.1.1),.recs 3 (gnR p.1.2.1),z1s p.1.2.2,.ints .i64 p.2.1,.recs 3 (gnR p.2.2)]
abbrev zxw (p:PtJ):Av:= .agg ((ziq p).map Cell.lf)
def z3M (p:PtJ):PtT:=(zg0 p.1.1 p.1.2,p.2.1.take 20,z2L p.2.2)
structure PtI (p:PtJ):Prop where
 w:WhI p.1.2
 r:p.2.1.length≤big
 g:zg1 p.2.2
set_option maxHeartbeats 4000000 in
theorem zfk (p:PtJ) (h:PtI p):Ct Tryz.prog 39 [zxw p] [] (ptA (z3M p)) [] []:=by
 have h1:=zg2 p.1.1 p.1.2 h.w
 have h2:=ziL p.2.1 h.r
 have h3:=zdq p.2.2 h.g
 unfold z3M
 clear h
 obtain⟨⟨b,g,s⟩,r,l⟩:=p
 dsimp only at*
 cases b
 ·change Ct _ _ _ _ (wpV none) _ _ at h1
  change Ct _ _ _ _ (ptA (none,_,_)) _ _
  refine z00 Tryz.func39 rfl rfl rfl rfl rfl (fun E hn hb=>?_)
  repeat refine nx ?_
  exact rt1 []
 ·change Ct _ _ _ _ (wpV (some (z2L g,stT s))) _ _ at h1
  change Ct _ _ _ _ (ptA (some (z2L g,stT s),_,_)) _ _
  refine z00 Tryz.func39 rfl rfl rfl rfl rfl (fun E hn hb=>?_)
  repeat refine nx ?_
  exact rt1 []
set_option maxHeartbeats 4000000 in
theorem zaS (p q:PtT) (hp:PtV p) (hq:PtV q) (hpl:z0A p=true→(z0o p).length≤12000000) (hql:z0A q=true→(z0o q).length≤12000000):Ct Tryz.prog 43 [ptA p,ptA q] [] (lv (.bool (z0A p&&z0A q&&decide (z0o p=z0o q)))) [] []:=by
 have h1:=z5j p hp
 have h2:=fun _:Unit=>z5j q hq
 have h3:=fun(a:z0A p=true) (b:z0A q=true)=>zis (z0o p) (z0o q) (by have:=hpl a; omega) (by have:=hql b; omega)
 clear hpl hql
 generalize z0o p=A at*
 generalize z0o q=B at*
 obtain⟨o,r,g⟩:=p
 obtain⟨o2,r2,g2⟩:=q
 generalize z0A (o,r,g)=k1 at*
 generalize z0A (o2,r2,g2)=k2 at*
 generalize decide (A=B)=D at*
 rcases o with _ |⟨g',s'⟩<;>rcases o2 with _ |⟨g2',s2'⟩<;>cases k1<;>cases k2
 all_goals
  try have h4:=h3 rfl rfl
  clear h3
  simp only[Bool.true_and,Bool.false_and,Bool.and_false,Bool.and_true,Bool.false_eq_true,if_false,if_true] at*
  refine z00 Tryz.func43 rfl rfl rfl rfl rfl (fun E hn hb=>?_)
  repeat refine nx ?_
  clear h1
  have c:=h2 ()
  repeat (first | refine nx ?_ | refine wgF (lv (.bool false)) hn ?_)
  exact rt1 []
set_option maxHeartbeats 8000000 in
theorem z6Z (p:PtT) (h:PtV p) (hk:z0A p=true):Ct Tryz.prog 45 [z9h p] [] (B8 (z0o p)) [] []:=by
 obtain⟨k1,k2,k3⟩:=z63 hk
 have hpl:=h.q k1
 have hbl:=zcj h hk
 have l1:=z66 1 k2
 have hb:=h.b
 have hw:=zg8 p.1.isSome (whD p.1) (fun e=>by obtain⟨o,r,g⟩:=p; cases o with | none=>cases e | some w=>exact h.v w rfl k1) (fun e=>by obtain⟨o,r,g⟩:=p; cases o with | none=>cases e | some w=>exact k1)
 rw[show(if p.1.isSome=true then some (whD p.1) else none)=p.1 by obtain⟨o,r,g⟩:=p; cases o<;>rfl] at hw
 have t1:=zfX 1 p.2.1 (by decide) k2
 have hof:=z4n 16
 have hat:=z4p 2 true
 have hwr:=fun _:Unit=>z1R (ofT 16) (z38 p) (by decide) (by omega)
 unfold z0o
 have hC:z38 p=z18 p.1++z1V 1 p.2.1++tnW 2 p.2.2:=by unfold z38; rw[List.append_assoc]
 by_cases h0:p.2.2.length=0
 ·rw[show tnW 2 p.2.2= [] by unfold tnW; rw[if_pos h0],List.append_nil] at hC
  rw[hC] at hwr ⊢
  obtain⟨o,r,g⟩:=p
  obtain rfl:=List.eq_nil_of_length_eq_zero h0
  dsimp only at*
  clear h hb
  generalize z18 o=P at*
  generalize z1V 1 r=T at*
  rcases o with _ |⟨g',s'⟩
  all_goals
   refine z00 Tryz.func45 rfl rfl rfl rfl rfl (fun E hn hb=>?_)
   repeat refine nx ?_
   have c:=hwr ()
   repeat refine nx ?_
   exact rt1 []
 ·have hg:=k3.resolve_left h0
  have hgl:=h.g hg
  have hgw:=z8b p.2.2 hb.l hb.g (z1P hg).2.2 (by omega)
  have hwA:=z1R (2,2,true) (p.2.2.flatMap z0l) (by decide) (by omega)
  have hml:(gnR p.2.2).length=p.2.2.length:=List.length_map ..
  rw[show tnW 2 p.2.2=z05 (2,2,true) (p.2.2.flatMap z0l) by unfold tnW; rw[if_neg h0]] at hC
  rw[hC] at hwr hbl ⊢
  simp only[List.length_append] at hbl
  obtain⟨o,r,g⟩:=p
  dsimp only at*
  clear h hb hg k3
  generalize z18 o=P at*
  generalize z1V 1 r=T at*
  generalize g.flatMap z0l=X at*
  generalize z05 (2,2,true) X=U at*
  rcases o with _ |⟨g',s'⟩
  all_goals
   refine z00 Tryz.func45 rfl rfl rfl rfl rfl (fun E hn hb=>?_)
   repeat (first | refine du2 (id:=1) ?_ | refine nxw ?_)
   refine duF [85] [(6,85),(6,74)] ?_
   repeat refine nx ?_
   have c:=hwr ()
   clear hwA
   refine zcv 23 ?_
   repeat refine nx ?_
   exact rt1 []
def z8r (l:List PtT):Bool:=decide (0<l.length)&&l.all z0A
theorem zgw {l:List PtT} {p:PtT} (h:p ∈ l):(z0o p).length≤(l.flatMap z0o).length:=by
 obtain⟨s,t,rfl⟩:=List.append_of_mem h
 rw[List.flatMap_append,List.flatMap_cons,List.length_append,List.length_append]
 omega
abbrev z4T:PtT:=(none,[],[])
set_option maxHeartbeats 16000000 in
theorem z9D (l:List PtT) (h:∀ p ∈ l,PtV p) (hn:l.length≤10000) (hl:l.all z0A=true→(l.flatMap z0o).length≤12000000):
  Ct Tryz.prog 46 [ptV l] [] (.tup [B8 (if z8r l=true then z2j l else []),lv (.int .i64 (if z8r l=true then 0 else 1))]) [] []:=by
 have hml:(ptR l).length=l.length:=List.length_map ..
 have hnw:=z8L
 have hof:=z1d 16
 have ho:=z6r z2n (ofT 16) false []
 unfold z8r
 by_cases h0:l= []
 ·subst h0
  rw[if_neg (by simp),if_neg (by simp)]
  refine z00 Tryz.func46 rfl rfl rfl rfl rfl (fun E hn hb=>?_)
  repeat refine nx ?_
  exact rtU []
 ·have hpos:0<l.length:=List.length_pos_iff.2 h0
  rw[decide_eq_true hpos,Bool.true_and]
  refine z00 Tryz.func46 rfl rfl rfl rfl rfl (fun E hn hb=>?_)
  repeat refine nx ?_
  refine z06 rfl (by simp) (fun hc=>?_) (fun hc=>?_)
  ·exfalso
   rw[hml,show((l.length:Int)==0)=false by simp; exact h0] at hc
   simp at hc
   omega
  ·repeat refine nx ?_
   rw[show((List.length (ptR l):Nat):Int)=(l.length:Int) from congrArg _ hml]
   refine z09 (St.le_of (l:= [(0,ptV l),(19,ptV l),(20,lv (.int .i64 (l.length:Int))),(21,lv (.int .i64 ((0:Nat):Int)))]) (h:= []) (by refine⟨?_,?_⟩<;>(repeat' (first | exact trivial | exact rfl | refine⟨?_,?_⟩))<;>first | exact rfl |(simp; done) | skip)) ?_
   refine z0k (ι:= {i:Nat//i≤l.length∧(l.take i).all z0A=true}) (fun i=>St.of [(0,ptV l),(19,ptV l),(20,lv (.int .i64 (l.length:Int))),(21,lv (.int .i64 (i.1:Int)))] []) (fun i=>l.length -i.1) (fun i=>?_) ⟨0,Nat.zero_le _,rfl⟩
   obtain⟨i,hi,hia⟩:=i
   dsimp only
   by_cases hi2:i<l.length
   ·have hq:l.getD (i:Int).toNat default=l.getD i z4T:=rfl
    have hm:=z1m (d:=z4T) hi2
    have hrp:=z6j _ (h _ hm).b
    have hsn:=z1Y (d:=z4T) hi2
    generalize l.getD i z4T=z at*
    by_cases hk:z0A z=true
    ·rw[hk] at hrp
     obtain⟨o,r,g⟩:=z
     rcases o with _ |⟨g',s'⟩
     all_goals
      repeat (first | refine nx ?_ | rw[hq])
      refine z08 ⟨i+1,by omega,by rw[hsn,List.all_append,hia]; simpa using hk⟩ (by dsimp only; omega) (St.le_of ⟨⟨rfl,rfl,rfl,rfl⟩,trivial⟩)
    ·have ha:¬ l.all z0A=true:=fun e=>hk (List.all_eq_true.1 e z hm)
     rw[if_neg ha,if_neg ha]
     rw[Bool.not_eq_true] at hk
     rw[hk] at hrp
     obtain⟨o,r,g⟩:=z
     rcases o with _ |⟨g',s'⟩
     all_goals
      repeat (first | refine nx ?_ | rw[hq])
      exact rtU []
   ·obtain rfl:i=l.length:=by omega
    rw[List.take_length] at hia
    rw[if_pos hia,if_pos hia]
    have hl:=hl hia
    have hla:=List.all_eq_true.1 hia
    unfold z2j
    repeat (first | refine nx ?_ | refine cm1 ?_)
    refine z7H (fun a w h=>SR.cell_nil 93 4 900 rfl rfl rfl rfl rfl h) ?_
    rw[show((List.length (ptR l):Nat):Int)=(l.length:Int) from congrArg _ hml]
    refine z09 (St.le_of (l:= [(6,.c (.ptr 93 0)),(33,ptV l),(34,lv (.int .i64 (l.length:Int))),(35,lv (.int .i64 ((0:Nat):Int)))]) (h:= [(93,shG (ofT 16) false (.own 900 1 0 ((l.take 0).flatMap z0o).length) (.own 96 5 0 1) 0),(900,rB ((l.take 0).flatMap z0o)),(96,.fr [] (frD 1093)),(1093,rB [])]) (by refine⟨?_,?_⟩<;>(repeat' (first | exact trivial | exact rfl | refine⟨?_,?_⟩))<;>first | exact rfl |(simp; done) | skip)) ?_
    refine z0k (ι:= {i:Nat//i≤l.length}) (fun i=>St.of [(6,.c (.ptr 93 0)),(33,ptV l),(34,lv (.int .i64 (l.length:Int))),(35,lv (.int .i64 (i.1:Int)))] [(93,shG (ofT 16) false (.own 900 1 0 ((l.take i.1).flatMap z0o).length) (.own 96 5 0 1) 0),(900,rB ((l.take i.1).flatMap z0o)),(96,.fr [] (frD 1093)),(1093,rB [])]) (fun i=>l.length -i.1) (fun i=>?_) ⟨0,Nat.zero_le _⟩
    obtain⟨i,hi⟩:=i
    dsimp only
    by_cases hi2:i<l.length
    ·have hq:l.getD (i:Int).toNat default=l.getD i z4T:=rfl
     have hm:=z1m (d:=z4T) hi2
     have hwp:=z5j _ (h _ hm)
     rw[if_pos (hla _ hm),if_pos (hla _ hm)] at hwp
     have hft:=zaE z0o l i z4T hi2
     have hle:=z7r z0o l (i+1)
     rw[hft,List.length_append] at hle
     have hzw:=zgw hm
     generalize l.getD i z4T=z at*
     have hfa:=fun(a:Option Addr) (c:Nat)=>(z64 (ofT 16) false ((l.take i).flatMap z0o) 0 0 a 1 c).m
     have hpu:=fun(a:Option Addr) (c:Nat)=>z5G (ofT 16) false ((l.take i).flatMap z0o) [z0o z] a 1 c (Nat.le_of_ble_eq_true rfl) (by rw[show [z0o z].flatten=z0o z by simp]; omega)
     rw[show [z0o z].flatten=z0o z by simp,←hft] at hpu
     generalize z0o z=W at*
     obtain⟨o,r,g⟩:=z
     rcases o with _ |⟨g',s'⟩
     all_goals
      repeat (first | refine nx ?_ | rw[hq])
      refine z1w (l:= [(6,.c (.ptr 93 0)),(9,B8 W),(33,ptV l),(34,lv (.int .i64 (l.length:Int))),(35,lv (.int .i64 (i:Int)))]) (hs:= [(93,shG (ofT 16) false (.own 900 1 0 ((l.take i).flatMap z0o).length) (.own 96 5 0 1) 0),(900,rB ((l.take i).flatMap z0o)),(96,.fr [] (frD 1093)),(1093,rB [])]) [93,900] 93 5 hfa rfl rfl (by rw[hn]; rfl) rfl (fun _ _=>rfl) rfl rfl (fun _ _=>rfl) (fun _ _=>trivial) (fun _ _=>⟨rfl,⟨rfl,rfl⟩,(by simp[z0b]),rfl⟩) (fun _ _=>rfl) (fun _ _=>rfl) (fun _ _=>by repeat' (first | exact trivial | exact rfl | exact congrArg (fun x=>lv (.int .i64 x)) (by omega) | refine⟨?_,?_⟩)) ?_
      repeat refine nx ?_
      refine z1w (l:= [(6,.c (.ptr 93 0)),(33,ptV l),(34,lv (.int .i64 (l.length:Int))),(35,lv (.int .i64 (i:Int)))]) (hs:= [(93,shG (ofT 16) false (.own 114 1 0 ((l.take (i+1)).flatMap z0o).length) (.own 96 5 0 1) 0),(114,rB ((l.take (i+1)).flatMap z0o)),(96,.fr [] (frD 1093)),(1093,rB [])]) [93,900] 93 5 hpu rfl rfl (by rw[hn]; rfl) rfl (fun _ _=>rfl) rfl rfl (fun _ _=>rfl) (fun _ _=>trivial) (fun _ _=>⟨rfl,⟨rfl,rfl⟩,(by simp[z0b]),rfl⟩) (fun _ _=>rfl) (fun _ _=>rfl) (fun _ _=>by repeat' (first | exact trivial | exact rfl | exact congrArg (fun x=>lv (.int .i64 x)) (by omega) | refine⟨?_,?_⟩)) ?_
      repeat refine nx ?_
      refine z41 (fun a w h=>SR.mv 114 900 rfl rfl rfl rfl rfl h) ?_
      refine z08 ⟨i+1,by omega⟩ (by dsimp only; omega) (St.le_of ⟨⟨rfl,rfl,rfl,rfl⟩,⟨rfl,rfl,rfl,rfl⟩⟩)
    ·obtain rfl:i=l.length:=by omega
     rw[List.take_length]
     have hsh:=z3z (ofT 16) z2n false (l.flatMap z0o) [] 0 [] rfl (by decide) (by rw[List.length_nil]; omega) (by decide)
     rw[List.nil_append] at hsh
     have hwl:=z0s (ofT 16) (l.flatMap z0o)
     have hby:=z6p (z05 (ofT 16) (l.flatMap z0o)) [] (by omega)
     generalize z05 (ofT 16) (l.flatMap z0o)=W at*
     repeat refine nx ?_
     refine z4U 900 93 ?_
     refine z2D [93,96,1093] hsh rfl rfl (by rw[hn]; rfl) rfl rfl (by trivial) ⟨rfl,⟨rfl,rfl,rfl⟩,(by simp[z0b]),rfl⟩ ?_
     repeat refine nx ?_
     refine z4U 117 93 ?_
     repeat refine nx ?_
     exact rt1 []
end Go.Proofs.YtaagjnlkinojcaaGreat
namespace Go.Sx
set_option linter.unusedSimpArgs false
set_option linter.unusedVariables false
open Go
set_option linter.unusedVariables false
theorem zp0 {P:Program} {E:Env} {ops:Array Oper} {σ:St} {o:Oper} {α:Type} {f:α→List Leaf} {ns b own:List Nat} {bs:List (List Nat×List Nat)} {l:List Oper} {K:St→Prop} {nt:Nat} {dd:Option Nat} {t:TypeId} {y:Operand} {p:List Prop} {j sz i:Nat} {rs:List α} {z0:α} {xs:List Cell} {gi:Nat} {gb G:Bool} (hn:E.n=nt) (hk:z0a P E ops ns bs l (σ.put dd (.cnd G (.agg xs))) K)
  (hop:o.op= .load t y:=by exact rfl) (hg:o.guard=some (gi,gb):=by exact rfl) (hG:z0V ops ⟨σ.tm,fgt b σ.hp⟩ gi gb=some G:=by exact rfl) (hdf:z0j o.dst some=some dd:=by exact rfl) (hd:z0e nt dd=true:=by exact rfl) (ht:z2w P t=true:=by exact rfl)
  (hy:ox ⟨σ.tm,fgt b σ.hp⟩ y=(p,.c (.pel j sz i 0)):=by exact rfl) (hb:fgt b σ.hp j= .row (.recs sz (rs.map f)):=by exact rfl) (hs:Nat.beq sz 0=false:=by exact rfl) (hx:z2C (some ((f (rs.getD i z0)).map Cell.lf)) some=some xs:=by exact rfl) (hz0:Df z0:=by first | exact Df.nil | exact Df.dflt) (hf:∀ a,(f a).length=sz:=by exact fun _=>rfl) (hc:P.cellsOf t=sz:=by first |(simp; done) | fail)
  (hp:G=true→z03 p:=by intro hG; first | trivial | exact hG | exact⟨hG,hG⟩ |(simp; done) |(simp; omega) |(simp at*; done) |(simp at*; omega)) (hlt:G=true→i<rs.length:=by intro hG; first | omega |(simp; done) |(simp; omega) |(simp at*; omega)):z0a P E ops ns ((b,own)::bs) (o::l) σ K:=by
 obtain rfl:=Option.some.inj (z3P hx)
 exact z20 hdf (by rw[hn]; exact hd) (z3E hg hG fun hh τ hl=>zh9 (f:=f) (rs:=rs) (z0:=z0) hop ht hc hs ((hl.ox y (by rw[hop]; simp[Op.operands])).trans hy) ((congrFun hl.hp j).trans hb) hf (hp hh) (hlt hh)) hk
end Go.Sx
namespace Go.Proofs.YtaagjnlkinojcaaGreat
set_option linter.unusedSimpArgs false
set_option linter.unusedVariables false
open Go.Sx
set_option maxRecDepth 10000
structure PtS (p:PtT):Prop where
 v:PtV p
 h:z0A p=true→PtH p∧(z0o p).length≤1464200∧WfB (z0o p)
theorem zp1 (k:Int) {l:List GnT} (hk:0≤k∧k≤30) (h:l.length=0∨WfB (l.flatMap z0l)):WfB (tnW k l):=by
 unfold tnW
 by_cases h0:l.length=0
 ·rw[if_pos h0]; exact fun x hx=>absurd hx List.not_mem_nil
 ·rw[if_neg h0]; exact z1I _ _ (zdu hk) (h.resolve_left h0)
theorem zgx {p:PtJ} (h:PtI p):PtS (z3M p):=by
 obtain⟨hoS,hoB⟩:=zpX p.1.1 h.w
 obtain⟨g1,g2⟩:=zdg h.g
 have hg:z1g (z2L p.2.2)=true→((z2L p.2.2).flatMap z0l).length≤732000:=fun hk=>z9p (z1P hk).2.2 g1 fun g hg=>(g2 g hg).2
 refine⟨⟨⟨hoB,by unfold z3M; simp; omega,by unfold z3M; dsimp only; omega,fun g hg=>(g2 g hg).1⟩,fun w e hk=>?_,fun hk=>Nat.le_trans (zhC hoS hk).1 (by decide),fun hk=>Nat.le_trans (hg hk) (by decide)⟩,fun hk=>?_⟩
 ·unfold z3M at e
  dsimp only at e
  rw[e] at hoS
  exact(hoS hk).v
 ·obtain⟨k1,k2,k3⟩:=z63 hk
  have hp:=zhC hoS k1
  unfold z3M at k2 k3
  dsimp only at k2 k3
  have l1:=z66 1 k2
  have hG:(tnW 2 (z2L p.2.2)).length≤732020∧WfB (tnW 2 (z2L p.2.2))∧(∀ g ∈ z2L p.2.2,GnH g)∧((z2L p.2.2).flatMap z0l).length≤732000:=by
   rcases k3 with k | k
   ·rw[List.eq_nil_of_length_eq_zero k]
    exact⟨Nat.zero_le _,fun x hx=>absurd hx List.not_mem_nil,fun g hg=>absurd hg List.not_mem_nil,Nat.zero_le _⟩
   ·have hk3:=(z1P k).2.2
    have hw:WfB ((z2L p.2.2).flatMap z0l):=z8J _ _ fun g hg=>zeE (hk3 g hg) (g2 g hg).1.w fun r hr a ha=>(((g2 g hg).1.n.2 r hr).2 a ha).w
    have hl:=z0s (2,2,true) ((z2L p.2.2).flatMap z0l)
    have:=hg k
    refine⟨?_,zp1 2 (by decide) (.inr hw),fun g hg=>zkj (hk3 g hg) (g2 g hg).1 (g2 g hg).2,hg k⟩
    unfold tnW
    split
    ·exact Nat.zero_le _
    ·omega
  obtain⟨q1,q2,q3,q4⟩:=hG
  have hc:(z38 (z3M p)).length≤1464150:=by
   unfold z38 z3M
   simp only[List.length_append]
   omega
  have hwl:=z0s (ofT 16) (z38 (z3M p))
  refine⟨⟨fun w e=>?_,q3,by unfold z3M; dsimp only; omega,by omega⟩,by unfold z0o; omega,?_⟩
  ·unfold z3M at e
   dsimp only at e
   rw[e] at hoS
   unfold z3M at k1
   dsimp only at k1
   rw[e] at k1
   exact(hoS k1).h
  ·unfold z0o z38 z3M
   exact z1I _ _ (by decide) (z5Q hp.2 (z5Q (zlf 1 k2 (by decide)) q2))
end Go.Proofs.YtaagjnlkinojcaaGreat
namespace Go.Proofs.YtaagjnlkinojcaaGreat
set_option linter.unusedSimpArgs false
set_option linter.unusedVariables false
open Go Go.Sx
set_option maxRecDepth 10000
set_option maxHeartbeats 8000000 in
theorem zgy (p q:PtT) (hp:PtV p) (hq:PtV q) (hpl:z0A p=true→(z0o p).length≤12000000) (hql:z0A q=true→(z0o q).length≤12000000):Ct Tryz.prog 44 [z9h p,z9h q] [] (lv (.bool (z0A p&&z0A q&&decide (z0o p=z0o q)))) [] []:=by
 have a1:=z7l p hp.b
 have a2:=fun _:Unit=>z7l q hq.b
 have h3:=fun(a:z0A p=true) (b:z0A q=true)=>z4k (z0o p) (z0o q) (by have:=hpl a; omega) (by have:=hql b; omega)
 have b1:=fun k1=>z6Z p hp k1
 have b2:=fun k1=>z6Z q hq k1
 clear hp hq hpl hql
 obtain⟨o,r,g⟩:=p
 obtain⟨o2,r2,g2⟩:=q
 generalize z0o (o,r,g)=A at*
 generalize z0o (o2,r2,g2)=B at*
 generalize z0A (o,r,g)=k1 at*
 generalize z0A (o2,r2,g2)=k2 at*
 generalize decide (A=B)=D at*
 rcases o with _ |⟨g',s'⟩<;>rcases o2 with _ |⟨g2',s2'⟩<;>cases k1
 all_goals
  simp only[Bool.true_and,Bool.false_and] at*
  try have c1:=b1 trivial
  refine z00 Tryz.func44 rfl rfl rfl rfl rfl (fun E hn hb=>?_)
  cases k2
  all_goals
   try have c2:=fun _:Unit=>b2 rfl
   try have h4:=h3 trivial rfl
   repeat (first | refine nx ?_ | refine z7P (hF:=a2 ()) ?_ | refine z7P (hF:=c2 ()) ?_ | refine dwF (lv (.bool false)) hn ?_)
   exact rt1 []
end Go.Proofs.YtaagjnlkinojcaaGreat

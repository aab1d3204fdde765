/-
  Chapter 12: a block more, the state's bytes. The conditions: words below 2^32, bytes that are bytes.
-/
import Derived.Test.YtaagjnlkinojcaaGreatW27
import Derived.Test.YtaagjnlkinojcaaGreatD15
import Derived.Test.YtaagjnlkinojcaaGreatC12
import Derived.Test.YtaagjnlkinojcaaGreatC7
import Derived.Test.YtaagjnlkinojcaaGreatW10
import Derived.Test.YtaagjnlkinojcaaGreatSxP
namespace Go.Proofs.YtaagjnlkinojcaaGreat
set_option linter.unusedSimpArgs false
set_option linter.unusedVariables false
open Go.Sx
set_option maxRecDepth 10000
def z3Q:Nat→List (List Int)→List (List Int)
 | 0,rs=>rs
 | j+1,rs=>if z0z (rs.getD (j+1) []) (rs.getD j [])<0 then z3Q j ((rs.set (j+1) (rs.getD j [])).set j (rs.getD (j+1) [])) else rs
def z2m:Nat→Nat→List (List Int)→List (List Int)
 | _,0,rs=>rs
 | i,n+1,rs=>z2m (i+1) n (z3Q i rs)
theorem z9b:∀(j:Nat) (rs:List (List Int)),(z3Q j rs).length=rs.length
 | 0,_=>rfl
 | j+1,rs=>by
   unfold z3Q
   split
   ·rw[z9b]; simp
   ·rfl
def z3Y (rs:List (List Int)):Prop:=∀ r ∈ rs,r.length≤16000000
theorem z3j {rs:List (List Int)} (h:z3Y rs) (i:Nat):(rs.getD i []).length≤16000000:=by
 rcases Nat.lt_or_ge i rs.length with hi | hi
 ·rw[List.getD_eq_getElem?_getD,List.getElem?_eq_getElem hi]
  exact h _ (List.getElem_mem hi)
 ·rw[List.getD_eq_getElem?_getD,List.getElem?_eq_none hi]
  exact Nat.zero_le _
theorem z7f {rs:List (List Int)} (h:z3Y rs) (i:Nat) {x:List Int} (hx:x.length≤16000000):z3Y (rs.set i x):=by
 intro r hr
 rcases List.mem_or_eq_of_mem_set hr with h1 | h1
 ·exact h r h1
 ·rw[h1]; exact hx
theorem zbe:∀(j:Nat) (rs:List (List Int)),z3Y rs→z3Y (z3Q j rs)
 | 0,_,h=>h
 | j+1,rs,h=>by
   unfold z3Q
   split
   ·exact zbe j _ (z7f (z7f h _ (z3j h _)) _ (z3j h _))
   ·exact h
abbrev z4X (rs:List (List Int)):Blk:= .row (.recs 1 (z2a rs))
set_option maxHeartbeats 4000000 in
theorem zj3 (rs:List (List Int)) (hl:rs.length≤1000) (hr:z3Y rs):
  Ct Tryz.prog 239 [.c (.own 0 1 0 rs.length),lv (.int .i64 0),lv (.int .i64 (rs.length:Int)),.c (.fn (.func 208) [] [])] [z4X rs] (.tup []) [z4X (z2m 1 (rs.length -1) rs)] []:=by
 refine z00 Tryz.func239 rfl rfl rfl rfl rfl (fun E hn hb=>?_)
 repeat refine nx ?_
 refine z09 (St.le_of (l:= [(0,.c (.own 0 1 0 rs.length)),(1,lv (.int .i64 0)),(2,lv (.int .i64 (rs.length:Int))),(3,.c (.fn (.func 208) [] [])),(8,lv (.int .i64 ((1:Nat):Int)))]) (h:= [(0,z4X rs)]) (by refine⟨?_,?_⟩<;>(repeat' (first | exact trivial | exact rfl | refine⟨?_,?_⟩))<;>first | exact rfl |(simp; done) | skip)) ?_
 refine z0k (ι:= {x:Nat×List (List Int)//1≤x.1∧(x.1≤rs.length∨rs.length=0)∧x.2.length=rs.length∧z3Y x.2∧z2m x.1 (rs.length -x.1) x.2=z2m 1 (rs.length -1) rs}) (fun i=>St.of [(0,.c (.own 0 1 0 rs.length)),(1,lv (.int .i64 0)),(2,lv (.int .i64 (rs.length:Int))),(3,.c (.fn (.func 208) [] [])),(8,lv (.int .i64 (i.1.1:Int)))] [(0,z4X i.1.2)]) (fun i=>rs.length -i.1.1) (fun i=>?_) ⟨(1,rs),by dsimp only; omega,by dsimp only; omega,rfl,hr,rfl⟩
 obtain⟨⟨i,ts⟩,h0,h1,h2,h3,h4⟩:=i
 change 1≤i at h0
 change i≤rs.length∨rs.length=0 at h1
 change ts.length=rs.length at h2
 change z3Y ts at h3
 change z2m i (rs.length -i) ts=_ at h4
 dsimp only
 by_cases hi:i<rs.length
 ·repeat refine nx ?_
  refine z09 (St.le_of (l:= [(0,.c (.own 0 1 0 rs.length)),(1,lv (.int .i64 0)),(2,lv (.int .i64 (rs.length:Int))),(3,.c (.fn (.func 208) [] [])),(8,lv (.int .i64 (i:Int))),(9,lv (.int .i64 (i:Int)))]) (h:= [(0,z4X ts)]) (by refine⟨?_,?_⟩<;>(repeat' (first | exact trivial | exact rfl | refine⟨?_,?_⟩))<;>first | exact rfl |(simp; done) | skip)) ?_
  refine z0k (ι:= {x:Nat×List (List Int)//x.1≤i∧x.2.length=rs.length∧z3Y x.2∧z3Q x.1 x.2=z3Q i ts}) (fun k=>St.of [(0,.c (.own 0 1 0 rs.length)),(1,lv (.int .i64 0)),(2,lv (.int .i64 (rs.length:Int))),(3,.c (.fn (.func 208) [] [])),(8,lv (.int .i64 (i:Int))),(9,lv (.int .i64 (k.1.1:Int)))] [(0,z4X k.1.2)]) (fun k=>k.1.1) (fun k=>?_) ⟨(i,ts),Nat.le_refl _,h2,h3,rfl⟩
  obtain⟨⟨j,us⟩,g0,g1,g2,g3⟩:=k
  change j≤i at g0
  change us.length=rs.length at g1
  change z3Y us at g2
  change z3Q j us=_ at g3
  dsimp only
  have hstep:z2m i (rs.length -i) ts=z2m (i+1) (rs.length -(i+1)) (z3Q i ts):=by
   rw[show rs.length -i=(rs.length -(i+1))+1 by omega,z2m]
  have hbl:=z9b i ts
  have hbr:=zbe i ts h3
  cases j with
  | zero=>
    rw[z3Q] at g3
    repeat refine nx ?_
    refine z7P (hF:=z6l _ _ (z3j g2 _) (z3j g2 _)) ?_
    repeat refine nx ?_
    subst g3
    rw[h4] at hstep
    refine z08 ⟨(i+1,z3Q i ts),by dsimp only; omega,by dsimp only; omega,by dsimp only; omega,hbr,hstep.symm⟩ (by dsimp only; omega) (St.le_of ⟨⟨rfl,rfl,rfl,rfl,rfl⟩,rfl⟩)
  | succ j=>
    repeat refine nx ?_
    refine z7P (hF:=z6l _ _ (z3j g2 _) (z3j g2 _)) ?_
    repeat refine nx ?_
    have e1:0+((j+1:Nat):Int).toNat=j+1:=by omega
    have e2:0+(((j+1:Nat):Int) -1).toNat=j:=by omega
    have e3:((j+1:Nat):Int) -1=(j:Int):=by omega
    refine z06 rfl (by simp) (fun hc=>?_) (fun hc=>?_)
    ·rw[e1,e2] at hc
     have hlt:z0z (us.getD (j+1) []) (us.getD j [])<0:=by
      generalize z0z (us.getD (j+1) []) (us.getD j [])=C at hc ⊢
      simp at hc
      omega
     rw[z3Q,if_pos hlt] at g3
     repeat refine nx ?_
     refine z08 ⟨(j,(us.set (j+1) (us.getD j [])).set j (us.getD (j+1) [])),by dsimp only; omega,by simp[g1],z7f (z7f g2 _ (z3j g2 _)) _ (z3j g2 _),g3⟩ (by dsimp only; omega) (St.le_of ⟨⟨rfl,rfl,rfl,rfl,rfl,?_⟩,?_⟩)
     ·show lv (.int .i64 (((j+1:Nat):Int) -1))=_
      rw[e3]
     ·show z4X ((us.set (0+((j+1:Nat):Int).toNat) (us.getD (0+(((j+1:Nat):Int) -1).toNat) [])).set (0+(((j+1:Nat):Int) -1).toNat) (us.getD (0+((j+1:Nat):Int).toNat) []))=_
      rw[e1,e2]
    ·rw[e1,e2] at hc
     have hlt:¬ z0z (us.getD (j+1) []) (us.getD j [])<0:=by
      generalize z0z (us.getD (j+1) []) (us.getD j [])=C at hc ⊢
      simp at hc
      omega
     rw[z3Q,if_neg hlt] at g3
     subst g3
     rw[h4] at hstep
     repeat refine nx ?_
     refine z08 ⟨(i+1,z3Q i ts),by dsimp only; omega,by dsimp only; omega,by dsimp only; omega,hbr,hstep.symm⟩ (by dsimp only; omega) (St.le_of ⟨⟨rfl,rfl,rfl,rfl,rfl⟩,rfl⟩)
 ·have:rs.length -i=0:=by omega
  rw[this,z2m] at h4
  rw[←h4]
  repeat refine nx ?_
  exact rt1 []
set_option maxHeartbeats 4000000 in
theorem z60 (l:List Int) (p:Nat) (hp:p≤l.length) (hl:l.length≤12000000) (hw:WfB l):
  Ct Tryz.prog 189 [B8 l,lv (.int .i64 (p:Int))] [] (.tup [.c (.lf (.recs 1 (z2a (z12 l p).1))),lv (.int .i64 (z12 l p).2)]) [] []:=by
 refine z00 Tryz.func189 rfl rfl rfl rfl rfl (fun E hn hb=>?_)
 repeat refine nx ?_
 refine z10 6 900 1 (.recs 1 []) rfl rfl (.inr (.inr ⟨_,rfl⟩)) ?_
 refine z09 (St.le_of (l:= [(0,B8 l),(1,lv (.int .i64 (p:Int))),(6,.c (.own 900 1 0 (z2a []).length))]) (h:= [(900,.row (.recs 1 (z2a [])))]) (by refine⟨?_,?_⟩<;>(repeat' (first | exact trivial | exact rfl | refine⟨?_,?_⟩))<;>first | exact rfl |(simp; done) | skip)) ?_
 refine z0k (ι:= {x:Nat×Nat×List (List Int)//p≤x.2.1∧x.2.1≤l.length∧l.length -x.2.1<x.1∧x.2.2.length≤x.2.1∧z11 l x.1 x.2.1 x.2.2=z12 l p}) (fun i=>St.of [(0,B8 l),(1,lv (.int .i64 (i.1.2.1:Int))),(6,.c (.own 900 1 0 (z2a i.1.2.2).length))] [(900,.row (.recs 1 (z2a i.1.2.2)))]) (fun i=>l.length -i.1.2.1) (fun i=>?_) ⟨(l.length+1,p,[]),Nat.le_refl _,hp,by dsimp only; omega,Nat.zero_le _,rfl⟩
 obtain⟨⟨n,q,acc⟩,h0,h1,h2,h3,h4⟩:=i
 change p≤q at h0
 change q≤l.length at h1
 change l.length -q<n at h2
 change acc.length≤q at h3
 change z11 l n q acc=z12 l p at h4
 dsimp only
 obtain⟨n,rfl⟩:∃ m,n=m+1:=⟨n -1,by omega⟩
 by_cases hq:q<l.length
 ·have ho:=z9H l q h1 (by omega) hw
  have hf:=zem l q hq hw
  have hst:=z87 l n q acc hq
  have her:¬ (z13 l q).2.2.2.1=0→z11 l (n+1) q acc=([],(z13 l q).2.2.2.1):=fun h=>by rw[z11,if_neg (by omega),if_pos h]
  have hpos:=z2B l q hw
  have hle:=z1k l q h1
  unfold z13 at hf hst her
  generalize z0d l q=O at*
  obtain⟨⟨⟨t1,t2,t3⟩,a⟩,r,e⟩:=O
  dsimp only at*
  by_cases he:e=0
  ·subst he
   rw[if_neg (by simp)] at hf hst her
   by_cases hx:(l.length:Int) -r<a
   ·rw[if_pos hx] at hf hst her
    rw[h4] at her
    rw[her (by simp)]
    repeat refine nx ?_
    exact rtU []
   ·rw[if_neg hx] at hf hst her
    dsimp only at hf hst
    have hf:=hf rfl
    have hsl:(l.drop q).take (r -q+a.toNat)=(l.take ((r:Int)+a).toNat).drop (q:Int).toNat:=by
     rw[Int.toNat_natCast,List.drop_take]
     congr 1
     omega
    have hrec:z2a (acc++ [(l.drop q).take (r -q+a.toNat)])=z2a acc++ [[.ints .u8 ((l.take ((r:Int)+a).toNat).drop (q:Int).toNat)]]:=by rw[hsl]; simp[z2a]
    rw[hst rfl] at h4
    repeat refine nx ?_
    refine z08 ⟨(n,r+a.toNat,acc++ [(l.drop q).take (r -q+a.toNat)]),by dsimp only; omega,by dsimp only; omega,by dsimp only; omega,by dsimp only; simp; omega,h4⟩ (by dsimp only; omega) (St.le_of ⟨⟨rfl,?_,?_⟩,?_⟩)
    ·exact congrArg (fun x=>lv (.int .i64 x)) (show(r:Int)+a=((r+a.toNat:Nat):Int) by omega)
    ·dsimp only; rw[hrec]; show _=_; rfl
    ·dsimp only; rw[hrec]; show _=_; rfl
  ·rw[if_pos he] at hf hst her
   have her:=her he
   rw[h4] at her
   rw[her]
   repeat refine nx ?_
   exact rtU []
 ·have hw0:z12 l p=(acc,0):=by rw[←h4,z11,if_pos (by omega)]
  rw[hw0]
  obtain rfl:q=l.length:=by omega
  repeat refine nx ?_
  refine z31 4 ?_
  exact rtU []
theorem zh3 (rs:List (List Int)) (hl:rs.length≤19) (hr:z3Y rs):
  Ct Tryz.prog 230 [.c (.own 0 1 0 rs.length),lv (.int .i64 (rs.length:Int)),.c (.fn (.func 208) [] [])] [z4X rs] (.tup []) [z4X (z2m 1 (rs.length -1) rs)] []:=by
 have h:=zj3 rs (by omega) hr
 refine z00 Tryz.func230 rfl rfl rfl rfl rfl (fun E hn hb=>?_)
 repeat refine nx ?_
 refine zgM ?_
 repeat refine nx ?_
 refine zgM ?_
 repeat refine nx ?_
 exact rt1 []
theorem zj4 (rs:List (List Int)) (hl:rs.length≤19) (hr:z3Y rs):
  Ct Tryz.prog 215 [.c (.own 0 1 0 rs.length),.c (.fn (.func 208) [] [])] [z4X rs] (.tup []) [z4X (z2m 1 (rs.length -1) rs)] []:=by
 have h:=zh3 rs hl hr
 refine z00 Tryz.func215 rfl rfl rfl rfl rfl (fun E hn hb=>?_)
 repeat refine nx ?_
 exact rt1 []
theorem zh4 (rs:List (List Int)) (hl:rs.length≤1000):Ct Tryz.prog 214 [z2M rs] [] (.c (.own 0 1 0 rs.length)) [] [z4X rs]:=by
 refine z00 Tryz.func214 rfl rfl rfl rfl rfl (fun E hn hb=>?_)
 repeat refine nx ?_
 refine z9V (neg:=false) rfl rfl (by rw[hn]; rfl) Tryz.underlying249 rfl (by simp) (by simp[szD]) (fun b hbl=>?_)
 simp[z0f] at hbl
 cases b with
 | true=>
   obtain rfl:=hbl rfl
   repeat refine nx ?_
   refine z7W 2 64 1 (.recs 1 []) rfl rfl (.inr (.inr ⟨_,rfl⟩)) ?_
   exact rt1 [64]
 | false=>
   repeat refine nx ?_
   refine rt2 [69] ?_ ?_
   ·simp; rfl
   ·simp; rfl
def z4H (rs:List (List Int)):List (List Int):=z2m 1 (rs.length -1) rs
theorem z9X:∀(n i:Nat) (rs:List (List Int)),(z2m i n rs).length=rs.length
 | 0,_,_=>rfl
 | n+1,i,rs=>by rw[z2m,z9X n,z9b]
theorem zj5 (rs:List (List Int)) (hl:rs.length≤19) (hr:z3Y rs) (hf:(z4H rs).flatten.length≤16000000):
  Ct Tryz.prog 185 [z2M rs] [] (.tup [B8 (z05 (ofT 17) (z4H rs).flatten),lv (.int .i64 0)]) [] []:=by
 have h1:=zh4 rs (by omega)
 have h2:=zj4 rs hl hr
 have hil:=z9X (rs.length -1) 1 rs
 have h3:=z1d 17
 have h4:=z6N (ofT 17) (z4H rs) (by decide) (by unfold z4H; omega) hf
 change Ct Tryz.prog _ _ _ _ [z4X (z4H rs)] _ at h2
 change (z4H rs).length=_ at hil
 generalize z4H rs=ss at*
 generalize z05 (ofT 17) ss.flatten=W at*
 refine z00 Tryz.func185 rfl rfl rfl rfl rfl (fun E hn hb=>?_)
 repeat refine nx ?_
 rw[←hil]
 refine zcv 10 ?_
 repeat refine nx ?_
 exact rtU []
def atO (out:List (List Int)) (x:List Int):Nat→Nat
 | 0=>0
 | n+1=>if 0<z0z (out.getD n []) x then atO out x n else n+1
def z7g (out:List (List Int)) (x:List Int):List (List Int):=out.take (atO out x out.length)++x::out.drop (atO out x out.length)
def z5p:List (List Int)→List (List Int)→List (List Int)
 | [],out=>out
 | x::l,out=>z5p l (z7g out x)
theorem zbf (rs:List (List Int)) (i:Nat) (h:i<rs.length):(rs.take (i+1)).flatten=(rs.take i).flatten++rs.getD i []∧(rs.take (i+1)).flatten.length≤rs.flatten.length:=by
 refine⟨by rw[List.take_succ_eq_append_getElem h,List.flatten_append,List.flatten_cons,List.flatten_nil,List.append_nil,List.getD_eq_getElem?_getD,List.getElem?_eq_getElem h]; rfl,?_⟩
 have:=congrArg List.length (congrArg List.flatten (List.take_append_drop (i+1) rs))
 simp only[List.flatten_append,List.length_append] at this
 omega
theorem zkV (out:List (List Int)) (x:List Int):(z7g out x).length=out.length+1:=by
 unfold z7g
 simp
 omega
theorem z83:∀ a b:List Int,z0z a b<0↔0<z0z b a
 | [],[]=>by simp[z0z]
 | [],_::_=>by simp[z0z]
 | _::_,[]=>by simp[z0z]
 | x::a,y::b=>by
   have ih:=z83 a b
   simp only[z0z]
   (repeat' split)<;>first | omega | exact ih
theorem zj6 (P D:List (List Int)) (o x:List Int):(((P++ [o])++x::D).set (P.length+1) o).set P.length x=P++x::(o::D):=by
 rw[List.append_assoc,List.set_append_right _ _ (by omega),show P.length+1 -P.length=1 by omega,List.set_append_right _ _ (by omega),Nat.sub_self]
 rfl
theorem zeg (out rest:List (List Int)) (x:List Int):∀ k,k≤out.length→z3Q k (out.take k++x::(out.drop k++rest))=out.take (atO out x k)++x::(out.drop (atO out x k)++rest)
 | 0,_=>rfl
 | k+1,hk=>by
   have ht:out.take (k+1)=out.take k++ [out.getD k []]:=by
    rw[List.take_succ_eq_append_getElem (by omega),List.getD_eq_getElem?_getD,List.getElem?_eq_getElem (by omega)]; rfl
   have hd:out.drop k=out.getD k []::out.drop (k+1):=by
    rw[List.drop_eq_getElem_cons (by omega),List.getD_eq_getElem?_getD,List.getElem?_eq_getElem (by omega)]; rfl
   have hl:(out.take k).length=k:=by simp; omega
   rw[ht,z3Q,atO]
   have g1:(out.take k++ [out.getD k []]++x::(out.drop (k+1)++rest)).getD (k+1) []=x:=by
    rw[List.getD_eq_getElem?_getD,List.getElem?_append_right (by simp; omega)]
    simp[hl]
   have g2:(out.take k++ [out.getD k []]++x::(out.drop (k+1)++rest)).getD k []=out.getD k []:=by
    rw[List.getD_eq_getElem?_getD,List.append_assoc,List.getElem?_append_right (by omega),hl,Nat.sub_self]
    rfl
   rw[g1,g2]
   by_cases h:z0z x (out.getD k [])<0
   ·rw[if_pos h,if_pos ((z83 _ _).1 h)]
    have sw:=zj6 (out.take k) (out.drop (k+1)++rest) (out.getD k []) x
    rw[hl] at sw
    rw[sw,←List.cons_append,←hd]
    exact zeg out rest x k (by omega)
   ·rw[if_neg h,if_neg (fun h2=>h ((z83 _ _).2 h2)),ht]
theorem z8W:∀(l out:List (List Int)),z2m out.length l.length (out++l)=z5p l out
 | [],out=>by simp[z2m,z5p]
 | x::l,out=>by
   have h:=zeg out l x out.length (Nat.le_refl _)
   rw[List.take_length,List.drop_length,List.nil_append] at h
   rw[List.length_cons,z2m,h,z5p]
   have e:out.take (atO out x out.length)++x::(out.drop (atO out x out.length)++l)=z7g out x++l:=by simp[z7g]
   rw[e,←zkV out x]
   exact z8W l (z7g out x)
theorem zcQ (rs:List (List Int)):z4H rs=z5p rs []:=by
 cases rs with
 | nil=>rfl
 | cons x l=>exact z8W l [x]
theorem z4h (a b c:List Int) (t:z0h) (h:z0q t=true) (hb:b.length≤16777216):z0d (a++(z05 t b++c)) a.length=((t,(b.length:Int)),a.length+(tgL t).length+(z0I b.length).length,0):=by
 have e0:z05 t b++c=tgL t++(z0I b.length++(b++c)):=by simp[z05]
 have e1:=zeP a (z0I b.length++(b++c)) t h
 have e2:=zeQ (a++tgL t) (b++c) b.length hb (.inr trivial)
 rw[e0]
 unfold z0d z36
 rw[e1]
 dsimp only
 rw[if_pos rfl,←List.append_assoc,←List.length_append,e2]
 rfl
theorem zpI (a b c:List Int) (t:z0h) (h:z0q t=true) (hb:b.length≤16777216):z13 (a++(z05 t b++c)) a.length=(z05 t b,t,b,0,a.length+(z05 t b).length):=by
 have hr:=z4h a b c t h hb
 have hw:(z05 t b).length=(tgL t).length+(z0I b.length).length+b.length:=by simp[z05]; omega
 have e3:a++(z05 t b++c)=(a++tgL t++z0I b.length)++(b++c):=by simp[z05]
 unfold z13
 rw[hr]
 dsimp only
 rw[if_neg (by simp),if_neg (by simp; omega),Int.toNat_natCast]
 refine Prod.ext ?_ (Prod.ext rfl (Prod.ext ?_ (Prod.ext rfl ?_)))
 ·dsimp only
  rw[List.drop_left,show a.length+(tgL t).length+(z0I b.length).length -a.length+b.length=(z05 t b).length by omega,List.take_left]
 ·dsimp only
  rw[e3,show a.length+(tgL t).length+(z0I b.length).length=(a++tgL t++z0I b.length).length by simp[Nat.add_assoc],List.drop_left,List.take_left]
 ·dsimp only; omega
def shP {α:Type} (k:Nat) (r:α×Nat×Int):α×Nat×Int:=(r.1,k+r.2.1,r.2.2)
theorem z9c {α:Type} (z:α) (k p:Nat) (r:α×Nat×Int):z0U z (k+p) (shP k r)=shP k (z0U z p r):=by
 unfold z0U shP
 dsimp only
 split<;>rfl
theorem z8D (b:List Int) (k p:Nat):(b.drop k).getD p 0=b.getD (k+p) 0:=by
 rw[List.getD_eq_getElem?_getD,List.getD_eq_getElem?_getD,List.getElem?_drop]
theorem zbP (b:List Int) (k p:Nat):p<(b.drop k).length↔k+p<b.length:=by simp; omega
theorem zrF (b:List Int) (k p:Nat) (hk:k≤b.length):(b.drop k).length<p↔b.length<k+p:=by simp; omega
theorem zeh (b:List Int) (k:Nat):∀(f p:Nat) (n:Int),z0Z b f (k+p) n=shP k (z0Z (b.drop k) f p n)
 | 0,p,n=>by
   unfold z0Z
   simp only[zbP]
   split<;>rfl
 | f+1,p,n=>by
   have ih:=zeh b k f (p+1) (128*n+b.getD (k+p) 0%128)
   unfold z0Z
   simp only[zbP,z8D]
   split
   ·split
    ·rfl
    ·split
     ·split<;>rfl
     ·exact ih
   ·rfl
theorem zkW (b:List Int) (k p:Nat):z0P b (k+p)=shP k (z0P (b.drop k) p):=by
 have hn:z0Z b 3 (k+p+1) 0=shP k (z0Z (b.drop k) 3 (p+1) 0):=zeh b k 3 (p+1) 0
 have hr:z35 b (k+p)=shP k (z35 (b.drop k) p):=by
  unfold z35
  simp only[zbP,z8D,hn]
  split
  ·split<;>rfl
  ·rfl
 unfold z0P
 rw[hr,z9c]
theorem zj7 (b:List Int) (k p n:Nat) (hk:k≤b.length):z2Q b (k+p) n=shP k (z2Q (b.drop k) p n):=by
 unfold z2Q
 simp only[zrF b k _ hk,z8D,List.drop_drop,Nat.add_assoc]
 repeat' split
 all_goals simp[shP,Nat.add_assoc]
theorem zkX (b:List Int) (k p:Nat) (hk:k≤b.length):lenP b (k+p)=shP k (lenP (b.drop k) p):=by
 have hl:∀ n,z2Q b (k+p+1) n=shP k (z2Q (b.drop k) (p+1) n):=fun n=>zj7 b k (p+1) n hk
 have hr:z3v b (k+p)=shP k (z3v (b.drop k) p):=by
  unfold z3v
  simp only[zbP,z8D,hl]
  repeat' split
  all_goals rfl
 unfold lenP
 rw[hr,z9c]
theorem zj8 (b:List Int) (k p:Nat) (hk:k≤b.length):z0d b (k+p)=shP k (z0d (b.drop k) p):=by
 have ht:=zkW b k p
 have hr:z36 b (k+p)=shP k (z36 (b.drop k) p):=by
  unfold z36
  rw[ht]
  have hl:=zkX b k (z0P (b.drop k) p).2.1 hk
  unfold shP at hl ⊢
  dsimp only
  rw[hl]
  split<;>rfl
 unfold z0d
 rw[hr,z9c]
theorem zfJ (x:List Int) (p:Nat) (hp:p<x.length) (h0:(z0d x p).2.2=0) (h1:(z0d x p).1.2=(x.length:Int) -((z0d x p).2.1:Int)):z12 (x.drop p) 0=([x.drop p],0):=by
 have hle:=z1k x p (by omega)
 have hs:=zj8 x p 0 (by omega)
 rw[Nat.add_zero] at hs
 rw[hs] at h0 h1 hle
 generalize hr:z0d (x.drop p) 0=R at*
 obtain⟨⟨t,n⟩,q,e⟩:=R
 unfold shP at*
 dsimp only at*
 subst h0
 have hlen:(x.drop p).length=x.length -p:=by simp
 have hone:z13 (x.drop p) 0=(x.drop p,t,((x.drop p).drop q).take n.toNat,0,x.length -p):=by
  unfold z13
  rw[hr]
  dsimp only
  rw[if_neg (by simp),if_neg (by rw[hlen]; omega),List.drop_zero,List.take_of_length_le (by rw[hlen]; omega),show q+n.toNat=x.length -p by omega]
 unfold z12
 rw[hlen,show x.length -p+1=(x.length -p -1)+1+1 by omega,z11,if_neg (by rw[hlen]; omega),hone]
 dsimp only
 rw[if_neg (by simp),z11,if_pos (by rw[hlen]; omega)]
 rfl
def W32 (x:Int):Prop:=0≤x∧x<4294967296
structure V8 where
 a:Int
 b:Int
 c:Int
 d:Int
 e:Int
 f:Int
 g:Int
 h:Int
def V8.l (v:V8):List Int:= [v.a,v.b,v.c,v.d,v.e,v.f,v.g,v.h]
def V8.ok (v:V8):Prop:=W32 v.a∧W32 v.b∧W32 v.c∧W32 v.d∧W32 v.e∧W32 v.f∧W32 v.g∧W32 v.h
def KS:List Int:= [
 0x428a2f98,0x71374491,0xb5c0fbcf,0xe9b5dba5,0x3956c25b,0x59f111f1,0x923f82a4,0xab1c5ed5,
 0xd807aa98,0x12835b01,0x243185be,0x550c7dc3,0x72be5d74,0x80deb1fe,0x9bdc06a7,0xc19bf174,
 0xe49b69c1,0xefbe4786,0x0fc19dc6,0x240ca1cc,0x2de92c6f,0x4a7484aa,0x5cb0a9dc,0x76f988da,
 0x983e5152,0xa831c66d,0xb00327c8,0xbf597fc7,0xc6e00bf3,0xd5a79147,0x06ca6351,0x14292967,
 0x27b70a85,0x2e1b2138,0x4d2c6dfc,0x53380d13,0x650a7354,0x766a0abb,0x81c2c92e,0x92722c85,
 0xa2bfe8a1,0xa81a664b,0xc24b8b70,0xc76c51a3,0xd192e819,0xd6990624,0xf40e3585,0x106aa070,
 0x19a4c116,0x1e376c08,0x2748774c,0x34b0bcb5,0x391c0cb3,0x4ed8aa4a,0x5b9cca4f,0x682e6ff3,
 0x748f82ee,0x78a5636f,0x84c87814,0x8cc70208,0x90befffa,0xa4506ceb,0xbef9a3f7,0xc67178f2]
def zh5 (x:Int):List Int:= [x/16777216%256,x/65536%256,x/256%256,x%256]
def V8.bytes (v:V8):List Int:=v.l.flatMap zh5
@[simp] theorem zyw:KS.length=64:=rfl
@[simp] theorem zyx:KS≠ []:=by intro h; cases h
abbrev z84 (x:Int):Cell:= .lf (.v (.int .u32 x))
abbrev hC (v:V8) (bg:Bool) (X:Cell) (n:Int):List Cell:= [z84 v.a,z84 v.b,z84 v.c,z84 v.d,z84 v.e,z84 v.f,z84 v.g,z84 v.h,.lf (.v (.bool bg)),X,.lf (.v (.int .i64 n))]
end Go.Proofs.YtaagjnlkinojcaaGreat

/-
  Chapter 14: the next step at a cursor. The conditions: rows of at most a hundred thousand bytes.
-/
import Derived.Test.YtaagjnlkinojcaaGreatN5
import Derived.Test.YtaagjnlkinojcaaGreatN8
namespace Go.Proofs.YtaagjnlkinojcaaGreat
set_option linter.unusedSimpArgs false
set_option linter.unusedVariables false
open Go.Sx
set_option maxRecDepth 10000
abbrev atD:AtT:=([],[])
abbrev z1s (r:List AtT):Leaf:= .recs 2 (r.map atL)
abbrev z3m (r:List AtT):Av:= .c (.lf (z1s r))
abbrev nmL (n:List (List AtT)):Leaf:= .recs 1 (n.map fun r=> [z1s r])
abbrev nmV (n:List (List AtT)):Av:= .c (.lf (nmL n))
theorem zck:∀(r:List AtT),z25 r=true↔∀ i,i+1<r.length→z0z (atW (r.getD i atD)) (atW (r.getD (i+1) atD))<0
 | []=>by simp[z25]
 | [a]=>by simp[z25]
 | a::b::l=>by
   have ih:=zck (b::l)
   rw[z25,Bool.and_eq_true,decide_eq_true_eq,ih]
   constructor
   ·rintro⟨h1,h2⟩ i hi
    cases i with
    | zero=>exact h1
    | succ i=>exact h2 i (by simpa using hi)
   ·intro h
    exact⟨h 0 (by simp),fun i hi=>h (i+1) (by simpa using hi)⟩
theorem zcl {α:Type} {l:List α} {i:Nat} {d:α} (h:i<l.length):l.take (i+1)=l.take i++ [l.getD i d]:=by
 rw[List.take_add_one,List.getD_eq_getElem?_getD,List.getElem?_eq_getElem h]
 rfl
def zfl (r:List AtT) (i:Nat):Prop:=∀ j,j<i→z1F (r.getD j atD)=true∧(0<j→z0z (atW (r.getD (j -1) atD)) (atW (r.getD j atD))<0)
theorem z5x (r:List AtT):z0C r=true↔(1≤r.length∧r.length≤16)∧zfl r r.length:=by
 unfold z0C zfl
 simp only[Bool.and_eq_true,decide_eq_true_eq,List.all_eq_true,zck]
 constructor
 ·rintro⟨⟨h1,h2⟩,h3⟩
  refine⟨h1,fun j hj=>⟨?_,fun h0=>?_⟩⟩
  ·rw[List.getD_eq_getElem?_getD,List.getElem?_eq_getElem hj]
   exact h2 _ (List.getElem_mem hj)
  ·have:=h3 (j -1) (by omega)
   rwa[show j -1+1=j by omega] at this
 ·rintro⟨h1,h2⟩
  refine⟨⟨h1,fun a ha=>?_⟩,fun i hi=>(h2 (i+1) hi).2 (by omega)⟩
  obtain⟨j,hj,rfl⟩:=List.mem_iff_getElem.1 ha
  have:=(h2 j hj).1
  rwa[List.getD_eq_getElem?_getD,List.getElem?_eq_getElem hj] at this
theorem z8s {r:List AtT} (h:∀ a ∈ r,AtB a) {i:Nat} (hi:i<r.length):AtB (r.getD i atD):=by
 rw[List.getD_eq_getElem?_getD,List.getElem?_eq_getElem hi]
 exact h _ (List.getElem_mem hi)
set_option maxHeartbeats 8000000 in
theorem z8S (r:List AtT) (hb1:∀ a ∈ r,AtB a) (hl:r.length≤16000000):Ct Tryz.prog 178 [z3m r] [] (.tup [z2M (if z0C r=true then r.map atW else []),lv (.bool (z0C r))]) [] []:=by
 have hml:(r.map atL).length=r.length:=List.length_map ..
 by_cases h1:r.length=0
 ·obtain rfl:=List.eq_nil_of_length_eq_zero h1
  refine z00 Tryz.func178 rfl rfl rfl rfl rfl (fun E hn hb=>?_)
  repeat refine nx ?_
  exact rtU []
 by_cases h16:16<r.length
 ·have hS:z0C r=false:=by
   rw[Bool.eq_false_iff]
   intro h
   have:=((z5x r).1 h).1
   omega
  rw[hS,if_neg (by simp)]
  refine z00 Tryz.func178 rfl rfl rfl rfl rfl (fun E hn hb=>?_)
  repeat refine nx ?_
  exact rtU []
 refine z00 Tryz.func178 rfl rfl rfl rfl rfl (fun E hn hb=>?_)
 repeat refine nx ?_
 refine z06 rfl (by simp) (fun hc=>?_) (fun hc=>?_)
 ·exfalso
  rw[hml,show((r.length:Int)==0)=false by rw[beq_eq_false_iff_ne]; omega,show decide ((16:Int)<(r.length:Int))=false by rw[decide_eq_false_iff_not]; omega] at hc
  cases hc
 clear hc
 repeat refine nx ?_
 rw[hml]
 have hS0:=z5x r
 generalize z0C r=S at*
 refine z10 4 900 1 (.recs 1 []) rfl rfl (.inr (.inr ⟨_,rfl⟩)) ?_
 refine z09 (St.le_of (l:= [(4,.c (.own 900 1 0 (z2a ((r.take 0).map atW)).length)),(16,z3m r),(17,lv (.int .i64 (r.length:Int))),(18,lv (.int .i64 ((0:Nat):Int)))]) (h:= [(900,.row (.recs 1 (z2a ((r.take 0).map atW))))]) (by refine⟨?_,?_⟩<;>(repeat' (first | exact trivial | exact rfl | refine⟨?_,?_⟩))<;>first | exact rfl |(simp; done) | skip)) ?_
 refine z0k (ι:= {i:Nat//i≤r.length∧zfl r i}) (fun i=>St.of [(4,.c (.own 900 1 0 (z2a ((r.take i.1).map atW)).length)),(16,z3m r),(17,lv (.int .i64 (r.length:Int))),(18,lv (.int .i64 (i.1:Int)))] [(900,.row (.recs 1 (z2a ((r.take i.1).map atW))))]) (fun i=>r.length -i.1) (fun i=>?_) ⟨0,Nat.zero_le _,fun j hj=>by omega⟩
 obtain⟨i,hi,hu⟩:=i
 dsimp only
 by_cases hi2:i<r.length
 ·have hq:r.getD (i:Int).toNat default=r.getD i atD:=rfl
  have hb2:=z8s hb1 hi2
  have hw:=zd1 _ hb2
  have hwn:=zjk _ hb2
  by_cases ha:z1F (r.getD i atD)=true
  ·have hw:=hw ha
   clear hwn
   by_cases h0:i=0
   ·subst h0
    generalize hA:r.getD 0 atD=a at*
    have hne:(atW a).length≠0:=by have:=z1n (ofT 16) ((z1o a.1).1++a.2); unfold atW; omega
    have hnx:(r.take 1).map atW= [atW a]:=by rw[zcl (d:=atD) hi2,List.take_zero,List.nil_append,List.map_singleton]; exact congrArg (fun x=> [atW x]) hA
    generalize atW a=X at*
    obtain⟨o,v⟩:=a
    repeat (first | refine nx ?_ | rw[hq])
    refine z9V (neg:=false) rfl rfl (by rw[hn]; rfl) Tryz.underlying28 rfl (by simp) (by simp[szD]) (fun b hb0=>?_)
    simp only[z0f] at hb0
    cases b with
    | true=>exact absurd (hb0 rfl) hne
    | false=>
      repeat refine nx ?_
      refine wgF (lv (.int .i64 0)) hn ?_
      repeat refine nx ?_
      refine z08 ⟨1,hi2,fun j hj=>by obtain rfl:j=0:=by omega
                                     rw[hA]; exact⟨ha,fun h=>absurd h (by omega)⟩⟩ (by dsimp only; omega) (St.le_of ⟨⟨?_,rfl,rfl,rfl⟩,?_⟩)
      ·rw[hnx]; rfl
      ·rw[hnx]; rfl
   ·have hcm:=z6l (atW (r.getD (i -1) atD)) (atW (r.getD i atD)) (by have:=z5r (hu (i -1) (by omega)).1; have:=(z8s hb1 (show i -1<r.length by omega)).l; omega) (by have:=z5r ha; have:=hb2.l; omega)
    have hq2:((r.take i).map atW).getD (0+((i:Int) -1).toNat) []=atW (r.getD (i -1) atD):=by
     rw[show 0+((i:Int) -1).toNat=i -1 by omega,List.getD_eq_getElem?_getD,List.getElem?_map,List.getElem?_take,if_pos (by omega),List.getD_eq_getElem?_getD,List.getElem?_eq_getElem (by omega:i -1<r.length)]
     rfl
    have hnx:(r.take (i+1)).map atW=(r.take i).map atW++ [atW (r.getD i atD)]:=by rw[zcl (d:=atD) hi2,List.map_append]; rfl
    have hne:(atW (r.getD i atD)).length≠0:=by have:=z1n (ofT 16) ((z1o (r.getD i atD).1).1++(r.getD i atD).2); unfold atW; omega
    generalize hA:r.getD i atD=a at*
    generalize hX:atW a=X at*
    generalize hY:atW (r.getD (i -1) atD)=Y at*
    obtain⟨o,v⟩:=a
    repeat (first | refine nx ?_ | rw[hq])
    refine z9V (neg:=false) rfl rfl (by rw[hn]; rfl) Tryz.underlying28 rfl (by simp) (by simp[szD]) (fun b hb0=>?_)
    simp only[z0f] at hb0
    cases b with
    | true=>exact absurd (hb0 rfl) hne
    | false=>
      repeat (first | refine nx ?_ | rw[hq2])
      refine z06 rfl (by simp) (fun hc=>?_) (fun hc=>?_)
      ·have hS:S=false:=by
        rw[Bool.eq_false_iff]
        intro h
        have:=((hS0.1 h).2 i hi2).2 (by omega)
        rw[hY,hA,hX] at this
        simp at hc
        omega
       subst hS
       repeat refine nx ?_
       exact rtU []
      ·repeat refine nx ?_
       refine z08 ⟨i+1,hi2,fun j hj=>by
        by_cases e:j=i
        ·subst e
         rw[hA,hY,hX]
         simp at hc
         exact⟨ha,fun _=>by omega⟩
        ·exact hu j (by omega)⟩ (by dsimp only; omega) (St.le_of ⟨⟨?_,rfl,rfl,rfl⟩,?_⟩)
       ·rw[hnx]; simp; rfl
       ·rw[hnx]; simp; rfl
  ·have hwn:=hwn (by simpa using ha)
   have hS:S=false:=by
    rw[Bool.eq_false_iff]
    intro h
    exact ha ((hS0.1 h).2 i hi2).1
   subst hS
   clear hw ha hb2 hS0
   generalize r.getD i atD=a at*
   obtain⟨o,v⟩:=a
   repeat (first | refine nx ?_ | rw[hq])
   refine wgF (lv (.int .i64 0)) hn ?_
   repeat refine nx ?_
   exact rtU []
 ·obtain rfl:i=r.length:=by omega
  have hS:S=true:=hS0.2 ⟨⟨by omega,by omega⟩,hu⟩
  subst hS
  rw[List.take_length]
  repeat refine nx ?_
  refine z31 2 ?_
  exact rt1 []
def NmB (n:List (List AtT)):Prop:=n.length≤16000000∧∀ r ∈ n,r.length≤16000000∧∀ a ∈ r,AtB a
theorem z1m {α:Type} {l:List α} {i:Nat} {d:α} (h:i<l.length):l.getD i d ∈ l:=by
 rw[List.getD_eq_getElem?_getD,List.getElem?_eq_getElem h]
 exact List.getElem_mem h
theorem z9E {α:Type} {l:List α} {p:α→Bool} {d:α} (h:∀ j,j<l.length→p (l.getD j d)=true):l.all p=true:=by
 rw[List.all_eq_true]
 intro x hx
 obtain⟨j,hj,rfl⟩:=List.mem_iff_getElem.1 hx
 have:=h j hj
 rwa[List.getD_eq_getElem?_getD,List.getElem?_eq_getElem hj] at this
theorem z7K {α:Type} {l:List α} {p:α→Bool} {d:α} {j:Nat} (hj:j<l.length) (h:¬ p (l.getD j d)=true):l.all p=false:=by
 rw[Bool.eq_false_iff]
 intro h2
 exact h (List.all_eq_true.1 h2 _ (z1m hj))
set_option maxHeartbeats 8000000 in
theorem z70 (n:List (List AtT)) (hb1:NmB n):Ct Tryz.prog 132 [nmV n] [] (lv (.bool (z15 n))) [] []:=by
 have hml:(n.map fun r=> [z1s r]).length=n.length:=List.length_map ..
 have hl:=hb1.1
 unfold z15
 by_cases h64:64<n.length
 ·rw[decide_eq_false (by omega),Bool.false_and]
  refine z00 Tryz.func132 rfl rfl rfl rfl rfl (fun E hn hb=>?_)
  repeat refine nx ?_
  exact rt1 []
 rw[decide_eq_true (by omega),Bool.true_and]
 refine z00 Tryz.func132 rfl rfl rfl rfl rfl (fun E hn hb=>?_)
 repeat refine nx ?_
 rw[hml]
 refine z09 (St.le_of (l:= [(10,nmV n),(11,lv (.int .i64 (n.length:Int))),(12,lv (.int .i64 ((0:Nat):Int)))]) (h:= []) (by refine⟨?_,?_⟩<;>(repeat' (first | exact trivial | exact rfl | refine⟨?_,?_⟩))<;>first | exact rfl |(simp; done) | skip)) ?_
 refine z0k (ι:= {i:Nat//i≤n.length∧∀ j,j<i→z0C (n.getD j [])=true}) (fun i=>St.of [(10,nmV n),(11,lv (.int .i64 (n.length:Int))),(12,lv (.int .i64 (i.1:Int)))] []) (fun i=>n.length -i.1) (fun i=>?_) ⟨0,Nat.zero_le _,fun j hj=>by omega⟩
 obtain⟨i,hi,hu⟩:=i
 dsimp only
 by_cases hi2:i<n.length
 ·have hq:n.getD (i:Int).toNat []=n.getD i []:=rfl
  have hbr:=hb1.2 _ (z1m (d:= []) hi2)
  have hw:=z8S _ hbr.2 hbr.1
  by_cases ha:z0C (n.getD i [])=true
  ·rw[ha,if_pos rfl] at hw
   generalize hA:n.getD i []=r at*
   repeat (first | refine nx ?_ | rw[hq])
   refine z08 ⟨i+1,hi2,fun j hj=>by
    by_cases e:j=i
    ·subst e; rw[hA]; exact ha
    ·exact hu j (by omega)⟩ (by dsimp only; omega) (St.le_of ⟨⟨rfl,rfl,rfl⟩,trivial⟩)
  ·rw[z7K hi2 ha]
   rw[if_neg ha,Bool.eq_false_iff.2 ha] at hw
   generalize hA:n.getD i []=r at*
   repeat (first | refine nx ?_ | rw[hq])
   exact rt1 []
 ·obtain rfl:i=n.length:=by omega
  rw[z9E hu]
  repeat refine nx ?_
  exact rt1 []
set_option maxHeartbeats 8000000 in
theorem zcm (r:List AtT) (hb1:∀ a ∈ r,AtB a) (hl:r.length≤16000000):Ct Tryz.prog 139 [z3m r] [] (lv (.bool (z0C r))) [] []:=by
 have hml:(r.map atL).length=r.length:=List.length_map ..
 by_cases h1:r.length=0
 ·obtain rfl:=List.eq_nil_of_length_eq_zero h1
  refine z00 Tryz.func139 rfl rfl rfl rfl rfl (fun E hn hb=>?_)
  repeat refine nx ?_
  exact rt1 []
 by_cases h16:16<r.length
 ·have hS:z0C r=false:=by
   rw[Bool.eq_false_iff]
   intro h
   have:=((z5x r).1 h).1
   omega
  rw[hS]
  refine z00 Tryz.func139 rfl rfl rfl rfl rfl (fun E hn hb=>?_)
  repeat refine nx ?_
  exact rt1 []
 refine z00 Tryz.func139 rfl rfl rfl rfl rfl (fun E hn hb=>?_)
 repeat refine nx ?_
 have hS0:=z5x r
 generalize z0C r=S at*
 refine W_up 3 (x:=B8 []) (.inr ⟨rfl,.inl ⟨_,rfl⟩⟩) ?_
 refine z09 (St.le_of (l:= [(0,z3m r),(3,B8 []),(4,lv (.int .i64 ((0:Nat):Int)))]) (h:= []) (by refine⟨?_,?_⟩<;>(repeat' (first | exact trivial | exact rfl | refine⟨?_,?_⟩))<;>first | exact rfl |(simp; done) | skip)) ?_
 refine z0k (ι:= {i:Nat//i≤r.length∧zfl r i}) (fun i=>St.of [(0,z3m r),(3,B8 (if i.1=0 then [] else atW (r.getD (i.1 -1) atD))),(4,lv (.int .i64 (i.1:Int)))] []) (fun i=>r.length -i.1) (fun i=>?_) ⟨0,Nat.zero_le _,fun j hj=>by omega⟩
 obtain⟨i,hi,hu⟩:=i
 dsimp only
 by_cases hi2:i<r.length
 ·have hq:r.getD (i:Int).toNat default=r.getD i atD:=rfl
  have hb2:=z8s hb1 hi2
  have hw:=zbq _ hb2
  have hwn:=zhl _ hb2
  by_cases ha:z1F (r.getD i atD)=true
  ·have hw:=hw ha
   clear hwn
   by_cases h0:i=0
   ·subst h0
    generalize hA:r.getD 0 atD=a at*
    rw[if_pos rfl]
    generalize hX:atW a=X at*
    obtain⟨o,v⟩:=a
    repeat (first | refine nx ?_ | rw[hq])
    refine wgF (lv (.int .i64 0)) hn ?_
    repeat refine nx ?_
    refine z08 ⟨1,hi2,fun j hj=>by obtain rfl:j=0:=by omega
                                   rw[hA]; exact⟨ha,fun h=>absurd h (by omega)⟩⟩ (by dsimp only; omega) (St.le_of ⟨⟨rfl,?_,rfl⟩,trivial⟩)
    show B8 X=B8 (if 1=0 then [] else atW (r.getD 0 atD))
    rw[if_neg (by decide),hA,hX]
   ·have hcm:=z9u (atW (r.getD (i -1) atD)) (atW (r.getD i atD)) (by have:=z5r (hu (i -1) (by omega)).1; have:=(z8s hb1 (show i -1<r.length by omega)).l; omega) (by have:=z5r ha; have:=hb2.l; omega)
    rw[if_neg h0]
    generalize hA:r.getD i atD=a at*
    generalize hX:atW a=X at*
    generalize hY:atW (r.getD (i -1) atD)=Y at*
    obtain⟨o,v⟩:=a
    repeat (first | refine nx ?_ | rw[hq])
    refine z06 rfl (by simp) (fun hc=>?_) (fun hc=>?_)
    ·have hS:S=false:=by
      rw[Bool.eq_false_iff]
      intro h
      have:=((hS0.1 h).2 i hi2).2 (by omega)
      rw[hY,hA,hX] at this
      simp at hc
      omega
     subst hS
     repeat refine nx ?_
     exact rt1 []
    ·repeat refine nx ?_
     refine z08 ⟨i+1,hi2,fun j hj=>by
      by_cases e:j=i
      ·subst e
       rw[hA,hY,hX]
       simp at hc
       exact⟨ha,fun _=>by omega⟩
      ·exact hu j (by omega)⟩ (by dsimp only; omega) (St.le_of ⟨⟨rfl,?_,rfl⟩,trivial⟩)
     show B8 X=B8 (if i+1=0 then [] else atW (r.getD (i+1 -1) atD))
     rw[if_neg (by omega),Nat.add_sub_cancel,hA,hX]
  ·have hwn:=hwn (by simpa using ha)
   have hS:S=false:=by
    rw[Bool.eq_false_iff]
    intro h
    exact ha ((hS0.1 h).2 i hi2).1
   subst hS
   clear hw ha hb2 hS0
   generalize r.getD i atD=a at*
   obtain⟨o,v⟩:=a
   repeat (first | refine nx ?_ | rw[hq])
   refine wgF (lv (.int .i64 0)) hn ?_
   repeat refine nx ?_
   exact rt1 []
 ·obtain rfl:i=r.length:=by omega
  have hS:S=true:=hS0.2 ⟨⟨by omega,by omega⟩,hu⟩
  subst hS
  repeat refine nx ?_
  exact rt1 []
set_option maxHeartbeats 8000000 in
theorem zdL (n:List (List AtT)) (hb1:NmB n):Ct Tryz.prog 75 [nmV n] [] (lv (.bool (z15 n))) [] []:=by
 have hml:(n.map fun r=> [z1s r]).length=n.length:=List.length_map ..
 have hl:=hb1.1
 unfold z15
 refine z00 Tryz.func75 rfl rfl rfl rfl rfl (fun E hn hb=>?_)
 repeat refine nx ?_
 refine z09 (St.le_of (l:= [(0,nmV n),(3,lv (.int .i64 ((0:Nat):Int)))]) (h:= []) (by refine⟨?_,?_⟩<;>(repeat' (first | exact trivial | exact rfl | refine⟨?_,?_⟩))<;>first | exact rfl |(simp; done) | skip)) ?_
 refine z0k (ι:= {i:Nat//i≤n.length∧∀ j,j<i→z0C (n.getD j [])=true}) (fun i=>St.of [(0,nmV n),(3,lv (.int .i64 (i.1:Int)))] []) (fun i=>n.length -i.1) (fun i=>?_) ⟨0,Nat.zero_le _,fun j hj=>by omega⟩
 obtain⟨i,hi,hu⟩:=i
 dsimp only
 by_cases hi2:i<n.length
 ·have hq:n.getD (i:Int).toNat []=n.getD i []:=rfl
  have hbr:=hb1.2 _ (z1m (d:= []) hi2)
  have hw:=zcm _ hbr.2 hbr.1
  by_cases ha:z0C (n.getD i [])=true
  ·rw[ha] at hw
   generalize hA:n.getD i []=r at*
   repeat (first | refine nx ?_ | rw[hq])
   refine z08 ⟨i+1,hi2,fun j hj=>by
    by_cases e:j=i
    ·subst e; rw[hA]; exact ha
    ·exact hu j (by omega)⟩ (by dsimp only; omega) (St.le_of ⟨⟨rfl,rfl⟩,trivial⟩)
  ·rw[z7K hi2 ha,Bool.and_false]
   rw[Bool.eq_false_iff.2 ha] at hw
   generalize hA:n.getD i []=r at*
   repeat (first | refine nx ?_ | rw[hq])
   exact rt1 []
 ·obtain rfl:i=n.length:=by omega
  rw[z9E hu,Bool.and_true]
  repeat refine nx ?_
  refine rt2 [] (congrArg (fun x=>lv (.bool x)) ?_) trivial
  rw[hml,Bool.eq_iff_iff]
  simp
  omega
theorem zcn:∀ a b:List Int,-1≤z0z a b∧z0z a b≤1
 | [],[]=>by simp[z0z]
 | [],_::_=>by simp[z0z]
 | _::_,[]=>by simp[z0z]
 | x::a,y::b=>by
   have:=zcn a b
   rw[z0z]
   split
   ·omega
   ·split
    ·omega
    ·exact this
theorem zp2 {x:List Int} {a:AtT} {p q:Nat} (hw:WfB x) (hl:x.length≤12000000) (hp:p≤x.length) (h:z39 x p=(a,q,0)):z1F a=true∧AtB a∧x.drop p=atW a++x.drop q∧q≤x.length∧p<q:=by
 obtain⟨h1,h2⟩:=zbI hw h
 have hq:=(zer x p hp).2
 rw[h] at hq
 have hpos:0<(atW a).length:=z1n _ _
 have hlen:=congrArg List.length h2
 rw[List.length_append,List.length_drop,List.length_drop] at hlen
 have hsub:∀ z ∈ a.2,z ∈ atW a:=fun z hz=>by
  unfold atW z05
  simp[hz]
 have hle:a.2.length≤(atW a).length:=by
  unfold atW z05
  simp only[List.length_append]
  omega
 have hr:z0W a.1=true:=by
  unfold z1F at h1
  rw[Bool.and_eq_true] at h1
  exact h1.1
 refine⟨h1,⟨?_,by omega,fun z hz=>hw z ?_⟩,h2,hq,by dsimp only at hq; omega⟩
 ·obtain⟨_,_,t,ho,_,_,_,_,ht,_⟩:=z3W hr
  rw[ho]
  simp
  omega
 ·have:z ∈ x.drop p:=by rw[h2]; exact List.mem_append_left _ (hsub z hz)
  exact List.mem_of_mem_drop this
theorem zir {x:List Int} {p:Nat} (h:¬ (z39 x p).2.2=0):(z39 x p).1=([],[]):=by
 unfold z39 at h ⊢
 dsimp only at h ⊢
 split at h
 ·rename_i h1
  rw[if_pos h1]
  dsimp only at h ⊢
  unfold z7w at h ⊢
  dsimp only at h ⊢
  split at h
  ·rename_i h2
   rw[if_pos h2]
   split at h
   ·rename_i h3
    rw[if_pos h3]
    split at h
    ·rename_i h4
     rw[if_pos h4]
    ·exact absurd rfl h
   ·rename_i h3
    rw[if_neg h3]
  ·rename_i h2
   rw[if_neg h2]
 ·rename_i h1
  rw[if_neg h1]
abbrev z6b (acc:List AtT):List Int:=if acc= [] then [] else atW (acc.getLastD ([],[]))
def z3H (l:List Int) (p:Nat):List AtT×Nat×Int:=
 let r:=z0r l p (ofT 17)
 if r.2.2=0 then((z55 r.1 (r.1.length+1) 0 []).1,r.2.1,(z55 r.1 (r.1.length+1) 0 []).2) else([],p,r.2.2)
theorem zdX (l:List Int) (p:Nat) (hp:p≤l.length):p≤(z3H l p).2.1∧(z3H l p).2.1≤l.length:=by
 have h:=z24 l p (ofT 17) hp
 unfold z3H
 dsimp only
 split
 ·exact h
 ·exact⟨Nat.le_refl _,hp⟩
theorem z6c (l:List Int) (p:Nat):z2e l p=z0U [] p (z3H l p):=by
 unfold z2e z3H z0U
 dsimp only
 split
 ·split
  ·rename_i h1 h2; rw[h2]
  ·rfl
 ·rfl
set_option maxHeartbeats 16000000 in
theorem zgz (l:List Int) (p:Nat) (hp:p≤l.length) (hl:l.length≤12000000) (hw:WfB l):Ct Tryz.prog 193 [rdN] [z04 l p] (.tup [z3m (z3H l p).1,lv (.int .i64 (z3H l p).2.2)]) [z04 l (z3H l p).2.1] []:=by
 have hho:=z1d 17
 have hop:=z26 l p (ofT 17) hp (by omega) hw
 have hoe:=z2s l p (ofT 17) hp (by omega) hw
 have hmem:=z0H l p (ofT 17)
 unfold z3H
 generalize z0r l p (ofT 17)=X at*
 obtain⟨x,q,e⟩:=X
 dsimp only at*
 by_cases he:e=0
 ·subst he
  have hop:=hop rfl
  rw[if_pos rfl]
  have hwx:WfB x:=fun y hy=>hw y (hmem.2 y hy)
  obtain⟨R,hR⟩:∃ R,z55 x (x.length+1) 0 []=R:=⟨_,rfl⟩
  rw[hR]
  refine z00 Tryz.func193 rfl rfl rfl rfl rfl (fun E hn hb=>?_)
  repeat refine nxw ?_
  refine z6x [79] [(3,0),(3,79)] ?_
  repeat (first | refine nx ?_ | refine z7h [0] hn hop ?_)
  refine z10 6 900 2 (.recs 2 []) rfl rfl (.inr (.inr ⟨_,rfl⟩)) ?_
  refine W_up 7 (x:=B8 []) (.inr ⟨rfl,.inl ⟨_,rfl⟩⟩) ?_
  refine z09 (St.le_of (l:= [(4,.c (.ptr 79 0)),(6,.c (.own 900 2 0 (([]:List AtT).map atL).length)),(7,B8 [])]) (h:= [(0,z04 l q),(79,z04 x 0),(900,.row (.recs 2 (([]:List AtT).map atL)))]) (by refine⟨?_,?_⟩<;>(repeat' (first | exact trivial | exact rfl | refine⟨?_,?_⟩))<;>first | exact rfl |(simp; done) | skip)) ?_
  refine z0k (ι:= {s:Nat×Nat×List AtT//s.2.1≤x.length∧x.length -s.2.1<s.1∧s.2.2.length≤16∧(∀ a ∈ s.2.2,z1F a=true∧AtB a)∧z55 x s.1 s.2.1 s.2.2=R}) (fun s=>St.of [(4,.c (.ptr 79 0)),(6,.c (.own 900 2 0 (s.1.2.2.map atL).length)),(7,B8 (z6b s.1.2.2))] [(0,z04 l q),(79,z04 x s.1.2.1),(900,.row (.recs 2 (s.1.2.2.map atL)))]) (fun s=>s.1.1) (fun s=>?_) ⟨(x.length+1,0,[]),Nat.zero_le _,by dsimp only; omega,by simp,by simp,hR⟩
  obtain⟨⟨f,pp,acc⟩,hpp,hf,h16,hok,hx⟩:=s
  dsimp only at hpp hf h16 hok hx ⊢
  obtain⟨f,rfl⟩:∃ m,f=m+1:=⟨f -1,by omega⟩
  have hml:(acc.map atL).length=acc.length:=List.length_map ..
  have hlf:=z0S x pp hpp (by omega)
  rw[z55] at hx
  by_cases hlt:pp<x.length
  ·rw[if_pos hlt] at hx
   by_cases h6:acc.length=16
   ·rw[if_pos h6] at hx
    subst hx
    repeat refine nx ?_
    exact rtU []
   ·rw[if_neg h6] at hx
    have hat:=zl8 x pp hpp (by omega) hwx
    have hB:= @zp2 x (z39 x pp).1 pp (z39 x pp).2.1 hwx (by omega) hpp
    have hne:= @zir x pp
    generalize z39 x pp=A at*
    obtain⟨a,q1,e1⟩:=A
    dsimp only at hat hx hB hne
    by_cases he1:e1=0
    ·subst he1
     rw[if_pos rfl] at hx
     obtain⟨b1,b2,b3,b4,b5⟩:=hB rfl
     have hwh:=zd1 a b2 b1
     by_cases h0:acc= []
     ·subst h0
      rw[if_neg (by simp),if_neg (by simp),List.nil_append] at hx
      obtain⟨o,v⟩:=a
      generalize hXX:atW (o,v)=XX at*
      repeat refine nx ?_
      refine z08 ⟨(f,q1,[(o,v)]),b4,by dsimp only; omega,by simp,by simp[b1,b2],hx⟩ (by dsimp only; omega) (St.le_of ⟨⟨rfl,rfl,?_⟩,⟨rfl,rfl,rfl⟩⟩)
      show B8 XX=B8 (atW (o,v))
      rw[hXX]
     ·have hla:z6b acc=atW (acc.getLastD ([],[])):=if_neg h0
      have hlm:acc.getLastD ([],[]) ∈ acc:=by
       rw[List.getLastD_eq_getLast?,List.getLast?_eq_some_getLast h0]
       exact List.getLast_mem h0
      have hcm:=z6l (z6b acc) (atW a) (by rw[hla]; have:=z5r (hok _ hlm).1; have:=(hok _ hlm).2.l; omega) (by have:=z5r b1; have:=b2.l; omega)
      have hrg:=zcn (z6b acc) (atW a)
      have hpos:0<acc.length:=List.length_pos_iff.2 h0
      rw[←hla] at hx
      have hnl:z6b (acc++ [a])=atW a:=by
       unfold z6b
       rw[if_neg (by simp)]
       simp
      obtain⟨o,v⟩:=a
      generalize hXX:atW (o,v)=XX at*
      generalize z6b acc=Y at*
      generalize z0z Y XX=C at*
      by_cases hc0:C=0
      ·subst hc0
       rw[if_pos ⟨h0,rfl⟩] at hx
       subst hx
       repeat refine nx ?_
       exact rtU []
      ·by_cases hc1:0<C
       ·obtain rfl:C=1:=by omega
        rw[if_neg (by simp),if_pos ⟨h0,by decide⟩] at hx
        subst hx
        repeat refine nx ?_
        exact rtU []
       ·obtain rfl:C= -1:=by omega
        rw[if_neg (by simp),if_neg (by simp)] at hx
        repeat refine nx ?_
        refine z08 ⟨(f,q1,acc++ [(o,v)]),b4,by dsimp only; omega,by simp; omega,fun a ha=>?_,hx⟩ (by dsimp only; omega) (St.le_of ⟨⟨rfl,?_,?_⟩,⟨rfl,rfl,?_⟩⟩)
        ·rcases List.mem_append.1 ha with h | h
         ·exact hok a h
         ·rw[List.mem_singleton.1 h]; exact⟨b1,b2⟩
        ·dsimp only; rw[List.map_append]; rfl
        ·show B8 XX=B8 (z6b (acc++ [(o,v)]))
         rw[hnl]
        ·dsimp only; rw[List.map_append]; rfl
    ·rw[if_neg he1] at hx
     obtain rfl:=hne he1
     subst hx
     repeat refine nx ?_
     exact rtU []
  ·rw[if_neg hlt] at hx
   obtain rfl:pp=x.length:=by omega
   by_cases h0:acc= []
   ·subst h0
    rw[if_pos rfl] at hx
    subst hx
    repeat refine nx ?_
    exact rtU []
   ·rw[if_neg h0] at hx
    subst hx
    have hpos:0<acc.length:=List.length_pos_iff.2 h0
    repeat refine nx ?_
    rw[hml]
    refine z31 2 ?_
    exact rt1 []
 ·have hoe:=hoe he
  rw[if_neg he]
  refine z00 Tryz.func193 rfl rfl rfl rfl rfl (fun E hn hb=>?_)
  repeat refine nxw ?_
  refine z6x [] [(3,0)] ?_
  repeat (first | refine nx ?_ | refine z7h [0] hn hoe ?_)
  exact rtU []
theorem zfm (l:List Int) (p:Nat) (hp:p≤l.length) (hl:l.length≤12000000) (hw:WfB l):Ct Tryz.prog 159 [.c (.ptr 0 0)] [z04 l p] (.tup [z3m (z2e l p).1,lv (.int .i64 (z2e l p).2.2)]) [z04 l (z2e l p).2.1] []:=by
 have h:=zgz l p hp hl hw
 have hle:=zdX l p hp
 have h1:=z1z l p
 rw[z6c]
 generalize z3H l p=R at*
 obtain⟨x,q,e⟩:=R
 dsimp only at*
 by_cases he:e=0
 ·subst he
  rw[z34 _ _ _ rfl]
  refine z00 Tryz.func159 rfl rfl rfl rfl rfl (fun E hn hb=>?_)
  repeat refine nx ?_
  exact rt1 []
 ·rw[z3k _ _ _ he]
  have hbk:=z1L l q p hle.1 (by omega)
  refine z00 Tryz.func159 rfl rfl rfl rfl rfl (fun E hn hb=>?_)
  repeat refine nx ?_
  exact rtU []
end Go.Proofs.YtaagjnlkinojcaaGreat

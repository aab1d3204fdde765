/-
  Chapters 14 to 16: names told to the document; like ones are like. The conditions: rows that a machine can hold.
-/
import Derived.Test.YtaagjnlkinojcaaGreatQ22
import Derived.Test.YtaagjnlkinojcaaGreatSxE
namespace Go.Proofs.YtaagjnlkinojcaaGreat
set_option linter.unusedSimpArgs false
set_option linter.unusedVariables false
open Go.Sx
set_option maxRecDepth 10000
set_option maxHeartbeats 4000000 in
theorem zcR (l:List GnT) (hb1:∀ g ∈ l,GnB g) (hl:l.length≤16000000):Ct Tryz.prog 98 [gnV l] [] (lv (.bool (z1g l))) [] []:=by
 have hml:(gnR l).length=l.length:=List.length_map ..
 unfold z1g
 by_cases h0:l.length=0
 ·obtain rfl:=List.eq_nil_of_length_eq_zero h0
  refine z00 Tryz.func98 rfl rfl rfl rfl rfl (fun E hn hb=>?_)
  repeat refine nx ?_
  exact rt1 []
 by_cases h9:10000<l.length
 ·rw[decide_eq_false (by omega:¬ l.length≤10000),Bool.and_false,Bool.false_and]
  refine z00 Tryz.func98 rfl rfl rfl rfl rfl (fun E hn hb=>?_)
  repeat refine nx ?_
  exact rt1 []
 rw[decide_eq_true (by omega:0<l.length),decide_eq_true (by omega:l.length≤10000),Bool.true_and,Bool.true_and]
 refine z00 Tryz.func98 rfl rfl rfl rfl rfl (fun E hn hb=>?_)
 repeat refine nx ?_
 refine z06 rfl (by simp) (fun hc=>?_) (fun hc=>?_)
 ·exfalso
  rw[hml,show((l.length:Int)==0)=false by rw[beq_eq_false_iff_ne]; omega,show decide ((10000:Int)<(l.length:Int))=false by rw[decide_eq_false_iff_not]; omega] at hc
  cases hc
 clear hc
 repeat refine nx ?_
 rw[hml]
 refine z09 (St.le_of (l:= [(13,gnV l),(14,lv (.int .i64 (l.length:Int))),(15,lv (.int .i64 ((0:Nat):Int)))]) (h:= []) (by refine⟨?_,?_⟩<;>(repeat' (first | exact trivial | exact rfl | refine⟨?_,?_⟩))<;>first | exact rfl |(simp; done) | skip)) ?_
 refine z0k (ι:= {i:Nat//i≤l.length∧∀ j,j<i→z0G (l.getD j gn0)=true}) (fun i=>St.of [(13,gnV l),(14,lv (.int .i64 (l.length:Int))),(15,lv (.int .i64 (i.1:Int)))] []) (fun i=>l.length -i.1) (fun i=>?_) ⟨0,Nat.zero_le _,fun j hj=>by omega⟩
 obtain⟨i,hi,hu⟩:=i
 dsimp only
 by_cases hi2:i<l.length
 ·have hq:l.getD (i:Int).toNat default=l.getD i gn0:=rfl
  have hw:=z5k _ (hb1 _ (z1m (d:=gn0) hi2))
  by_cases ha:z0G (l.getD i gn0)=true
  ·rw[ha] at hw
   generalize hA:l.getD i gn0=g at*
   obtain⟨k,b,n⟩:=g
   repeat (first | refine nx ?_ | rw[hq])
   refine z08 ⟨i+1,hi2,fun j hj=>by
    by_cases e:j=i
    ·subst e; rw[hA]; exact ha
    ·exact hu j (by omega)⟩ (by dsimp only; omega) (St.le_of ⟨⟨rfl,rfl,rfl⟩,trivial⟩)
  ·rw[z7K hi2 ha]
   rw[Bool.eq_false_iff.2 ha] at hw
   generalize hA:l.getD i gn0=g at*
   obtain⟨k,b,n⟩:=g
   repeat (first | refine nx ?_ | rw[hq])
   exact rt1 []
 ·obtain rfl:i=l.length:=by omega
  rw[z9E hu]
  repeat refine nx ?_
  exact rt1 []
theorem zfK (r:List AtT):z15 [r]=z0C r:=by
 unfold z15
 simp
structure WhB (w:WhT):Prop where
 l:w.1.length≤16000000
 g:∀ g ∈ w.1,GnB g
 s:w.2.length≤16000000
 a:∀ a ∈ w.2,AtB a
theorem zh6 (w:WhT) (h:WhB w):Ct Tryz.prog 70 [lfV (whC w)] [] (lv (.bool (z2b w))) [] []:=by
 obtain⟨g,r⟩:=w
 obtain⟨h1,h2,h3,h4⟩:=h
 dsimp only at h1 h2 h3 h4
 have hg:=zcR g h2 h1
 have hn1:=z70 [r] ⟨by simp,fun x hx=>by rw[List.mem_singleton.1 hx]; exact⟨h3,h4⟩⟩
 rw[zfK] at hn1
 have hml:(r.map atL).length=r.length:=List.length_map ..
 have hgl:(gnR g).length=g.length:=List.length_map ..
 unfold z2b
 dsimp only
 generalize z1g g=G at*
 generalize z0C r=S at*
 by_cases h0:0<r.length
 ·rw[if_pos h0]
  by_cases hg0:g.length=0
  ·obtain rfl:=List.eq_nil_of_length_eq_zero hg0
   refine z00 Tryz.func70 rfl rfl rfl rfl rfl (fun E hn hb=>?_)
   repeat (first | refine lgE hn ?_ | refine nx ?_)
   refine rt2 [] (congrArg (fun x=>lv (.bool x)) ?_) trivial
   simp
  ·refine z00 Tryz.func70 rfl rfl rfl rfl rfl (fun E hn hb=>?_)
   repeat (first | refine lgE hn ?_ | refine nx ?_)
   refine rt2 [] (congrArg (fun x=>lv (.bool x)) ?_) trivial
   rw[hgl,show((g.length:Int)==0)=false by rw[beq_eq_false_iff_ne]; omega,decide_eq_false hg0]
   rfl
 ·rw[if_neg h0]
  obtain rfl:r= []:=List.eq_nil_of_length_eq_zero (by omega)
  refine z00 Tryz.func70 rfl rfl rfl rfl rfl (fun E hn hb=>?_)
  repeat refine nx ?_
  exact rt1 []
abbrev z4I:Option WhT→Prop
 | none=>True
 | some w=>WhB w
theorem zcS (o:Option WhT) (l:List Int) (h:z4I o) (hl:l.length≤16000000):Ct Tryz.prog 86 [wpV o,I64 l] [] (lv (.bool (z3J o&&z0T l))) [] []:=by
 have hr:=zi4 l hl
 cases o with
 | none=>
   show Ct _ _ [.c (.lf (.v (.pointer none))),I64 l] _ _ _ _
   by_cases h0:l.length=0
   ·obtain rfl:=List.eq_nil_of_length_eq_zero h0
    refine z00 Tryz.func86 rfl rfl rfl rfl rfl (fun E hn hb=>?_)
    repeat (first | refine nx ?_ | refine wgF (lv (.bool false)) hn ?_)
    exact rt1 []
   ·rw[decide_eq_true (by omega:0<l.length),Bool.true_and] at hr
    have hz:((l.length:Int)==0)=false:=by rw[beq_eq_false_iff_ne]; omega
    generalize z0T l=R at*
    refine z00 Tryz.func86 rfl rfl rfl rfl rfl (fun E hn hb=>?_)
    repeat (first | refine nx ?_ | refine wgF (lv (.bool false)) hn ?_)
    refine rt2 [] (congrArg (fun x=>lv (.bool x)) ?_) trivial
    rw[hz]
    rfl
 | some w=>
   have hw:=zh6 w h
   show Ct _ _ [lfV (whC w),I64 l] _ (lv (.bool (z2b w&&z0T l))) _ _
   generalize z2b w=W at*
   obtain⟨w1,w2⟩:=w
   by_cases h0:l.length=0
   ·obtain rfl:=List.eq_nil_of_length_eq_zero h0
    refine z00 Tryz.func86 rfl rfl rfl rfl rfl (fun E hn hb=>?_)
    repeat refine nx ?_
    refine rt2 [] (congrArg (fun x=>lv (.bool x)) ?_) trivial
    cases W<;>simp[z0T,z2K]
   ·rw[decide_eq_true (by omega:0<l.length),Bool.true_and] at hr
    have hz:((l.length:Int)==0)=false:=by rw[beq_eq_false_iff_ne]; omega
    generalize z0T l=R at*
    cases W with
    | true=>
      refine z00 Tryz.func86 rfl rfl rfl rfl rfl (fun E hn hb=>?_)
      repeat refine nx ?_
      refine rt2 [] (congrArg (fun x=>lv (.bool x)) ?_) trivial
      rw[hz]
      rfl
    | false=>
      refine z00 Tryz.func86 rfl rfl rfl rfl rfl (fun E hn hb=>?_)
      repeat (first | refine nx ?_ | refine wgF (lv (.bool false)) hn ?_)
      exact rt1 []
abbrev ptA (p:PtT):Av:= .agg [.lf (wpL p.1),.lf (.ints .i64 p.2.1),.lf (.recs 3 (gnR p.2.2))]
structure PtB (p:PtT):Prop where
 w:z4I p.1
 r:p.2.1.length≤16000000
 l:p.2.2.length≤16000000
 g:∀ g ∈ p.2.2,GnB g
theorem z6j (p:PtT) (h:PtB p):Ct Tryz.prog 41 [ptA p] [] (lv (.bool (z0A p))) [] []:=by
 obtain⟨o,r,g⟩:=p
 obtain⟨h1,h2,h3,h4⟩:=h
 dsimp only at h1 h2 h3 h4
 have hp:=zcS o r h1 h2
 have hg:=zcR g h4 h3
 have hgl:(gnR g).length=g.length:=List.length_map ..
 unfold z0A
 dsimp only
 generalize (z3J o&&z0T r)=A at*
 generalize z1g g=G at*
 rcases o with _ |⟨w1,w2⟩
 ·change Ct _ _ [.c (.lf (.v (.pointer none))),I64 r] _ _ _ _ at hp
  show Ct _ _ [.agg [.lf (.v (.pointer none)),.lf (.ints .i64 r),.lf (.recs 3 (gnR g))]] _ _ _ _
  cases A with
  | false=>
    refine z00 Tryz.func41 rfl rfl rfl rfl rfl (fun E hn hb=>?_)
    repeat (first | refine nx ?_ | refine wgF (lv (.bool false)) hn ?_)
    refine rt2 [] (congrArg (fun x=>lv (.bool x)) ?_) trivial
    simp
  | true=>
    by_cases h0:g.length=0
    ·obtain rfl:=List.eq_nil_of_length_eq_zero h0
     refine z00 Tryz.func41 rfl rfl rfl rfl rfl (fun E hn hb=>?_)
     repeat (first | refine nx ?_ | refine wgF (lv (.bool false)) hn ?_)
     refine rt2 [] (congrArg (fun x=>lv (.bool x)) ?_) trivial
     simp
    ·have hz:((g.length:Int)==0)=false:=by rw[beq_eq_false_iff_ne]; omega
     rw[decide_eq_false h0,decide_eq_true (by omega:0<g.length)]
     refine z00 Tryz.func41 rfl rfl rfl rfl rfl (fun E hn hb=>?_)
     repeat refine nx ?_
     refine rt2 [] (congrArg (fun x=>lv (.bool x)) ?_) trivial
     rw[hgl,hz]
     cases G
     ·rfl
     ·simp
      try omega
 ·change Ct _ _ [.c (.lf (.obj [.recs 3 (gnR w1),z1s w2])),I64 r] _ _ _ _ at hp
  show Ct _ _ [.agg [.lf (.obj [.recs 3 (gnR w1),z1s w2]),.lf (.ints .i64 r),.lf (.recs 3 (gnR g))]] _ _ _ _
  cases A with
  | false=>
    refine z00 Tryz.func41 rfl rfl rfl rfl rfl (fun E hn hb=>?_)
    repeat (first | refine nx ?_ | refine wgF (lv (.bool false)) hn ?_)
    refine rt2 [] (congrArg (fun x=>lv (.bool x)) ?_) trivial
    simp
  | true=>
    by_cases h0:g.length=0
    ·obtain rfl:=List.eq_nil_of_length_eq_zero h0
     refine z00 Tryz.func41 rfl rfl rfl rfl rfl (fun E hn hb=>?_)
     repeat (first | refine nx ?_ | refine z4L rfl rfl ?_ | refine wgF (lv (.bool false)) hn ?_)
     refine rt2 [] (congrArg (fun x=>lv (.bool x)) ?_) trivial
     simp
    ·have hz:(((gnR g).length:Int)==0)=false:=by rw[hgl,beq_eq_false_iff_ne]; omega
     rw[decide_eq_false h0,decide_eq_true (by omega:0<g.length)]
     cases G
     ·refine z00 Tryz.func41 rfl rfl rfl rfl rfl (fun E hn hb=>?_)
      repeat (first | rw[hz] | refine nx ?_ | refine z4L rfl rfl ?_ | refine wgF (lv (.bool false)) hn ?_)
      refine rt2 [] (congrArg (fun x=>lv (.bool x)) ?_) trivial
      simp
     ·refine z00 Tryz.func41 rfl rfl rfl rfl rfl (fun E hn hb=>?_)
      repeat (first | rw[hz] | refine nx ?_ | refine z4L rfl rfl ?_ | refine wgF (lv (.bool false)) hn ?_)
      refine rt2 [] (congrArg (fun x=>lv (.bool x)) ?_) trivial
      simp
theorem z1Y {α:Type} {l:List α} {i:Nat} {d:α} (h:i<l.length):l.take (i+1)=l.take i++ [l.getD i d]:=by
 rw[List.take_add_one,List.getD_eq_getElem?_getD,List.getElem?_eq_getElem h]
 rfl
theorem z4Y (l:List AtT) (a:AtT):(l++ [a]).map atL=l.map atL++ [atL a]:=List.map_append
theorem z6k (l:List (List AtT)) (r:List AtT):nmR (l++ [r])=nmR l++ [[z1s r]]:=List.map_append
set_option maxHeartbeats 8000000 in
theorem zkY (n:List (List AtT)) (hb1:NmB n):Ct Tryz.prog 26 [nmV n] [] (nmV n) [] []:=by
 have hml:(n.map fun r=> [z1s r]).length=n.length:=List.length_map ..
 refine z00 Tryz.func26 rfl rfl rfl rfl rfl (fun E hn hb=>?_)
 repeat refine nx ?_
 refine z10 3 900 1 (.recs 1 []) rfl rfl (.inr (.inr ⟨_,rfl⟩)) ?_
 refine z09 (St.le_of (l:= [(0,nmV n),(3,.c (.own 900 1 0 (nmR (n.take 0)).length)),(4,lv (.int .i64 ((0:Nat):Int)))]) (h:= [(900,.row (.recs 1 (nmR (n.take 0))))]) (by refine⟨?_,?_⟩<;>(repeat' (first | exact trivial | exact rfl | refine⟨?_,?_⟩))<;>first | exact rfl |(simp; done) | skip)) ?_
 refine z0k (ι:= {i:Nat//i≤n.length}) (fun i=>St.of [(0,nmV n),(3,.c (.own 900 1 0 (nmR (n.take i.1)).length)),(4,lv (.int .i64 (i.1:Int)))] [(900,.row (.recs 1 (nmR (n.take i.1))))]) (fun i=>n.length -i.1) (fun i=>?_) ⟨0,Nat.zero_le _⟩
 obtain⟨i,hi⟩:=i
 dsimp only
 have hmt:(nmR (n.take i)).length=i:=by rw[List.length_map,List.length_take]; omega
 have hlb:=hb1.1
 by_cases hi2:i<n.length
 ·have hq:n.getD (i:Int).toNat []=n.getD i []:=rfl
  have hbr:=hb1.2 _ (z1m (d:= []) hi2)
  have hsn:=z1Y (d:= []) hi2
  generalize hA:n.getD i []=r at*
  have hmr:(r.map atL).length=r.length:=List.length_map ..
  repeat refine nx ?_
  refine z10 5 901 2 (.recs 2 []) rfl rfl (.inr (.inr ⟨_,rfl⟩)) ?_
  refine z09 (St.le_of (l:= [(0,nmV n),(3,.c (.own 900 1 0 (nmR (n.take i)).length)),(4,lv (.int .i64 (i:Int))),(5,.c (.own 901 2 0 ((r.take 0).map atL).length)),(6,lv (.int .i64 ((0:Nat):Int)))]) (h:= [(900,.row (.recs 1 (nmR (n.take i)))),(901,.row (.recs 2 ((r.take 0).map atL)))]) (by refine⟨?_,?_⟩<;>(repeat' (first | exact trivial | exact rfl | refine⟨?_,?_⟩))<;>first | exact rfl |(simp; done) | skip)) ?_
  refine z0k (ι:= {j:Nat//j≤r.length}) (fun j=>St.of [(0,nmV n),(3,.c (.own 900 1 0 (nmR (n.take i)).length)),(4,lv (.int .i64 (i:Int))),(5,.c (.own 901 2 0 ((r.take j.1).map atL).length)),(6,lv (.int .i64 (j.1:Int)))] [(900,.row (.recs 1 (nmR (n.take i)))),(901,.row (.recs 2 ((r.take j.1).map atL)))]) (fun j=>r.length -j.1) (fun j=>?_) ⟨0,Nat.zero_le _⟩
  obtain⟨j,hj⟩:=j
  dsimp only
  have hrt:((r.take j).map atL).length=j:=by rw[List.length_map,List.length_take]; omega
  by_cases hj2:j<r.length
  ·have hq2:r.getD (j:Int).toNat default=r.getD j atD:=rfl
   have hsr:=z1Y (d:=atD) hj2
   generalize hB:r.getD j atD=a at*
   obtain⟨o,v⟩:=a
   repeat (first | refine nxw ?_ | rw[hq])
   refine duF [105] [(19,105),(19,901)] ?_
   repeat (first | refine nx ?_ | rw[hq] | rw[hq2])
   refine z41 (fun a w h=>SR.mv 105 901 rfl rfl rfl rfl rfl h) ?_
   refine z08 ⟨j+1,by omega⟩ (by dsimp only; omega) (St.le_of ⟨⟨rfl,rfl,rfl,?_,rfl⟩,⟨rfl,?_⟩⟩)
   ·dsimp only; rw[hsr,z4Y]; rfl
   ·dsimp only; rw[hsr,z4Y]; rfl
  ·obtain rfl:j=r.length:=by omega
   repeat (first | refine nx ?_ | rw[hq])
   rw[List.take_length]
   refine zcv 43 ?_
   repeat refine nx ?_
   refine z08 ⟨i+1,by omega⟩ (by dsimp only; omega) (St.le_of ⟨⟨rfl,?_,rfl⟩,?_⟩)
   ·dsimp only; rw[hsn,z6k]; rfl
   ·dsimp only; rw[hsn,z6k]; rfl
 ·obtain rfl:i=n.length:=by omega
  rw[List.take_length]
  repeat refine nx ?_
  refine z31 2 ?_
  exact rt1 []
theorem zkZ (g:GnT) (h:GnB g):Ct Tryz.prog 77 [gnA g] [] (gnA g) [] []:=by
 have hn14:=zkY g.2.2 h.n
 obtain⟨k,b,n⟩:=g
 dsimp only at hn14
 refine z00 Tryz.func77 rfl rfl rfl rfl rfl (fun E hn hb=>?_)
 repeat refine nx ?_
 exact rt1 []
set_option maxHeartbeats 4000000 in
theorem zcT (l:List GnT) (hl:l.length≤16000000) (h:∀ g ∈ l,GnB g):Ct Tryz.prog 28 [gnV l] [] (gnV l) [] []:=by
 have hml:(gnR l).length=l.length:=List.length_map ..
 refine z00 Tryz.func28 rfl rfl rfl rfl rfl (fun E hn hb=>?_)
 repeat refine nx ?_
 refine z10 3 900 3 (.recs 3 []) rfl rfl (.inr (.inr ⟨_,rfl⟩)) ?_
 refine z09 (St.le_of (l:= [(0,gnV l),(3,.c (.own 900 3 0 (gnR (l.take 0)).length)),(4,lv (.int .i64 ((0:Nat):Int)))]) (h:= [(900,.row (.recs 3 (gnR (l.take 0))))]) (by refine⟨?_,?_⟩<;>(repeat' (first | exact trivial | exact rfl | refine⟨?_,?_⟩))<;>first | exact rfl |(simp; done) | skip)) ?_
 refine z0k (ι:= {i:Nat//i≤l.length}) (fun i=>St.of [(0,gnV l),(3,.c (.own 900 3 0 (gnR (l.take i.1)).length)),(4,lv (.int .i64 (i.1:Int)))] [(900,.row (.recs 3 (gnR (l.take i.1))))]) (fun i=>l.length -i.1) (fun i=>?_) ⟨0,Nat.zero_le _⟩
 obtain⟨i,hi⟩:=i
 dsimp only
 have hmt:(gnR (l.take i)).length=i:=by rw[List.length_map,List.length_take]; omega
 by_cases hi2:i<l.length
 ·have hq:l.getD (i:Int).toNat default=l.getD i gn0:=rfl
  have hof:=zkZ _ (h _ (z1m (d:=gn0) hi2))
  have hsn:=z1Y (d:=gn0) hi2
  generalize l.getD i gn0=g at*
  obtain⟨k,b,n⟩:=g
  repeat (first | refine nx ?_ | rw[hq])
  refine z08 ⟨i+1,by omega⟩ (by dsimp only; omega) (St.le_of ⟨⟨rfl,?_,rfl⟩,?_⟩)
  ·dsimp only; rw[hsn,z4Z]; rfl
  ·dsimp only; rw[hsn,z4Z]; rfl
 ·obtain rfl:i=l.length:=by omega
  rw[List.take_length]
  repeat refine nx ?_
  refine z31 2 ?_
  exact rt1 []
theorem zh7 (l:List Int) (hl:l.length≤16000000):Ct Tryz.prog 67 [I64 l,I64 l] [] (lv (.bool true)) [] []:=by
 refine z00 Tryz.func67 rfl rfl rfl rfl rfl (fun E hn hb=>?_)
 repeat refine nx ?_
 refine z09 (St.le_of (l:= [(0,I64 l),(1,I64 l),(4,lv (.bool false)),(5,lv (.int .i64 ((0:Nat):Int)))]) (h:= []) (by refine⟨?_,?_⟩<;>(repeat' (first | exact trivial | exact rfl | refine⟨?_,?_⟩))<;>first | exact rfl |(simp; done) | skip)) ?_
 refine z0k (ι:= {i:Nat//i≤l.length}) (fun i=>St.of [(0,I64 l),(1,I64 l),(4,lv (.bool false)),(5,lv (.int .i64 (i.1:Int)))] []) (fun i=>l.length -i.1) (fun i=>?_) ⟨0,Nat.zero_le _⟩
 obtain⟨i,hi⟩:=i
 dsimp only
 by_cases hi2:i<l.length
 ·repeat refine nx ?_
  refine z08 ⟨i+1,by omega⟩ (by dsimp only; omega) (St.le_of ⟨⟨rfl,rfl,rfl,rfl⟩,trivial⟩)
 ·repeat refine nx ?_
  exact rt1 []
set_option maxHeartbeats 8000000 in
theorem zbg (n:List (List AtT)) (hb1:NmB n):Ct Tryz.prog 76 [nmV n,nmV n] [] (lv (.bool true)) [] []:=by
 have hml:(n.map fun r=> [z1s r]).length=n.length:=List.length_map ..
 have hlb:=hb1.1
 refine z00 Tryz.func76 rfl rfl rfl rfl rfl (fun E hn hb=>?_)
 repeat refine nx ?_
 refine z09 (St.le_of (l:= [(0,nmV n),(1,nmV n),(4,lv (.bool false)),(5,lv (.int .i64 ((0:Nat):Int)))]) (h:= []) (by refine⟨?_,?_⟩<;>(repeat' (first | exact trivial | exact rfl | refine⟨?_,?_⟩))<;>first | exact rfl |(simp; done) | skip)) ?_
 refine z0k (ι:= {i:Nat//i≤n.length}) (fun i=>St.of [(0,nmV n),(1,nmV n),(4,lv (.bool false)),(5,lv (.int .i64 (i.1:Int)))] []) (fun i=>n.length -i.1) (fun i=>?_) ⟨0,Nat.zero_le _⟩
 obtain⟨i,hi⟩:=i
 dsimp only
 by_cases hi2:i<n.length
 ·have hq:n.getD (i:Int).toNat []=n.getD i []:=rfl
  have hbr:=hb1.2 _ (z1m (d:= []) hi2)
  generalize hA:n.getD i []=r at*
  have hmr:(r.map atL).length=r.length:=List.length_map ..
  have hrl:=hbr.1
  repeat (first | refine nx ?_ | rw[hq])
  refine z09 (St.le_of (l:= [(0,nmV n),(1,nmV n),(4,lv (.bool false)),(5,lv (.int .i64 (i:Int))),(6,lv (.int .i64 ((0:Nat):Int)))]) (h:= []) (by refine⟨?_,?_⟩<;>(repeat' (first | exact trivial | exact rfl | refine⟨?_,?_⟩))<;>first | exact rfl |(simp; done) | skip)) ?_
  refine z0k (ι:= {j:Nat//j≤r.length}) (fun j=>St.of [(0,nmV n),(1,nmV n),(4,lv (.bool false)),(5,lv (.int .i64 (i:Int))),(6,lv (.int .i64 (j.1:Int)))] []) (fun j=>r.length -j.1) (fun j=>?_) ⟨0,Nat.zero_le _⟩
  obtain⟨j,hj⟩:=j
  dsimp only
  by_cases hj2:j<r.length
  ·have hq2:r.getD (j:Int).toNat default=r.getD j atD:=rfl
   have hab:=hbr.2 _ (z1m (d:=atD) hj2)
   generalize hB:r.getD j atD=a at*
   obtain⟨o,v⟩:=a
   have h1:=zfn o o hab.o hab.o
   have h2:=z4k v v (by have:=hab.l; dsimp only at this; omega) (by have:=hab.l; dsimp only at this; omega)
   rw[decide_eq_true rfl] at h1 h2
   repeat (first | refine nx ?_ | rw[hq] | rw[hq2])
   refine z08 ⟨j+1,by omega⟩ (by dsimp only; omega) (St.le_of ⟨⟨rfl,rfl,rfl,rfl,rfl⟩,trivial⟩)
  ·obtain rfl:j=r.length:=by omega
   repeat (first | refine nx ?_ | rw[hq])
   refine z08 ⟨i+1,by omega⟩ (by dsimp only; omega) (St.le_of ⟨⟨rfl,rfl,rfl,rfl⟩,trivial⟩)
 ·obtain rfl:i=n.length:=by omega
  repeat refine nx ?_
  exact rt1 []
set_option maxHeartbeats 8000000 in
theorem zbh (l:List GnT) (hl:l.length≤16000000) (h:∀ g ∈ l,GnB g):Ct Tryz.prog 27 [gnV l,gnV l] [] (lv (.bool true)) [] []:=by
 have hml:(gnR l).length=l.length:=List.length_map ..
 refine z00 Tryz.func27 rfl rfl rfl rfl rfl (fun E hn hb=>?_)
 repeat refine nx ?_
 refine z09 (St.le_of (l:= [(0,gnV l),(1,gnV l),(4,lv (.bool false)),(5,lv (.int .i64 ((0:Nat):Int)))]) (h:= []) (by refine⟨?_,?_⟩<;>(repeat' (first | exact trivial | exact rfl | refine⟨?_,?_⟩))<;>first | exact rfl |(simp; done) | skip)) ?_
 refine z0k (ι:= {i:Nat//i≤l.length}) (fun i=>St.of [(0,gnV l),(1,gnV l),(4,lv (.bool false)),(5,lv (.int .i64 (i.1:Int)))] []) (fun i=>l.length -i.1) (fun i=>?_) ⟨0,Nat.zero_le _⟩
 obtain⟨i,hi⟩:=i
 dsimp only
 by_cases hi2:i<l.length
 ·have hq:l.getD (i:Int).toNat default=l.getD i gn0:=rfl
  have hab:=h _ (z1m (d:=gn0) hi2)
  generalize l.getD i gn0=g at*
  obtain⟨k,b,n⟩:=g
  have h1:=zbg n hab.n
  have h2:=z4k b b (by have:=hab.l; dsimp only at this; omega) (by have:=hab.l; dsimp only at this; omega)
  rw[decide_eq_true rfl] at h2
  repeat (first | refine nx ?_ | rw[hq])
  refine z08 ⟨i+1,by omega⟩ (by dsimp only; omega) (St.le_of ⟨⟨rfl,rfl,rfl,rfl⟩,trivial⟩)
 ·obtain rfl:i=l.length:=by omega
  repeat refine nx ?_
  exact rt1 []
end Go.Proofs.YtaagjnlkinojcaaGreat

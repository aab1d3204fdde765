/-
  Chapter 15: the next general names at a cursor. The conditions: rows of at most a hundred thousand bytes.
-/
import Derived.Test.YtaagjnlkinojcaaGreatQ5
import Derived.Test.YtaagjnlkinojcaaGreatC12
import Derived.Test.YtaagjnlkinojcaaGreatW27
import Derived.Test.YtaagjnlkinojcaaGreatC7
namespace Go.Proofs.YtaagjnlkinojcaaGreat
set_option linter.unusedSimpArgs false
set_option linter.unusedVariables false
open Go.Sx
set_option maxRecDepth 10000
theorem z7M (t:z0h) (b:List Int):(∀ z ∈ b,z ∈ z05 t b)∧b.length≤(z05 t b).length:=by
 unfold z05
 exact⟨fun z hz=>List.mem_append_right _ hz,by simp only[List.length_append]; omega⟩
theorem zcr {α:Type} {f:α→List Int} {l:List α} {a:α} (h:a ∈ l):(∀ z ∈ f a,z ∈ l.flatMap f)∧(f a).length≤(l.flatMap f).length:=by
 refine⟨fun z hz=>List.mem_flatMap.2 ⟨a,h,hz⟩,?_⟩
 obtain⟨s,t,rfl⟩:=List.append_of_mem h
 rw[List.flatMap_append,List.flatMap_cons]
 simp only[List.length_append]
 omega
theorem ziD {o:List Int} (h:z0W o=true):o.length≤16000000:=by
 obtain⟨_,_,t,ho,_,_,_,_,ht,_⟩:=z3W h
 rw[ho]
 simp
 omega
theorem zrA {a:AtT} (h:z1F a=true) (hw:WfB (atW a)) (hl:(atW a).length≤12000000):AtB a:=by
 unfold z1F at h
 rw[Bool.and_eq_true] at h
 have h1:=z7M (ofT 16) ((z1o a.1).1++a.2)
 rw[List.length_append] at h1
 change _∧_≤(atW a).length at h1
 exact⟨ziD h.1,by omega,fun z hz=>hw z (h1.1 z (List.mem_append_right _ hz))⟩
theorem ze1 {r:List AtT} (h:z0C r=true) (hw:WfB (z0g r)) (hl:(z0g r).length≤12000000):r.length≤16000000∧∀ a ∈ r,AtB a:=by
 obtain⟨_,h2,h3,_⟩:=z3u h
 refine⟨by omega,fun a ha=>?_⟩
 have h4:=z7M (ofT 17) (r.flatMap atW)
 have h5:=zcr (f:=atW) ha
 change _∧_≤(z0g r).length at h4
 exact zrA (h3 a ha) (fun z hz=>hw z (h4.1 z (h5.1 z hz))) (by omega)
theorem zkI {n:List (List AtT)} (h:z15 n=true) (hw:WfB (z1S n)) (hl:(z1S n).length≤12000000):NmB n:=by
 obtain⟨h1,h2⟩:=za6 h
 refine⟨by omega,fun r hr=>?_⟩
 have h4:=z7M (ofT 16) (n.flatMap z0g)
 have h5:=zcr (f:=z0g) hr
 change _∧_≤(z1S n).length at h4
 exact ze1 (h2 r hr) (fun z hz=>hw z (h4.1 z (h5.1 z hz))) (by omega)
theorem zgH {b:List Int} {n:List (List AtT)} (hw:WfB b) (hl:b.length≤12000000) (h:z4J b=(n,0)):z15 n=true∧NmB n:=by
 obtain⟨h1,rfl⟩:=zbr hw h
 exact⟨h1,zkI h1 hw hl⟩
theorem ziE {l:List Int} {p:Nat} (h:¬ (z2e l p).2.2=0):(z2e l p).1= []∧(z2e l p).2.1=p:=by
 rw[z6c] at h ⊢
 unfold z0U at h ⊢
 by_cases h2:(z3H l p).2.2=0
 ·rw[if_pos h2] at h; exact absurd h2 h
 ·rw[if_neg h2]; exact⟨rfl,rfl⟩
theorem ziF {l:List Int} {p:Nat} (h:¬ (z3H l p).2.2=0):(z2e l p).2.2=(z3H l p).2.2:=by
 rw[z6c]
 unfold z0U
 rw[if_neg h]
theorem zkJ {l:List Int} {p:Nat} (h:(z3H l p).2.2=0):z2e l p=z3H l p:=by
 rw[z6c]
 unfold z0U
 rw[if_pos h]
def z6v (l:List Int) (p:Nat):List (List AtT)×Nat×Int:=
 let r:=z0r l p (ofT 16)
 if r.2.2=0 then((z56 r.1 (r.1.length+1) 0 []).1,r.2.1,(z56 r.1 (r.1.length+1) 0 []).2) else([],p,r.2.2)
theorem ze2 (l:List Int) (p:Nat) (hp:p≤l.length):p≤(z6v l p).2.1∧(z6v l p).2.1≤l.length:=by
 have h:=z24 l p (ofT 16) hp
 unfold z6v
 dsimp only
 split
 ·exact h
 ·exact⟨Nat.le_refl _,hp⟩
theorem zaW (l:List Int) (p:Nat):z4Q l p=z0U [] p (z6v l p):=by
 unfold z4Q z6v z0U
 dsimp only
 split
 ·split
  ·rename_i h1 h2; rw[h2]
  ·rfl
 ·rfl
abbrev nmR (n:List (List AtT)):List (List Leaf):=n.map fun r=> [z1s r]
theorem zcs (n:List (List AtT)) (r:List AtT):nmR (n++ [r])=nmR n++ [[z1s r]]:=List.map_append
set_option maxHeartbeats 16000000 in
theorem zkK (l:List Int) (p:Nat) (hp:p≤l.length) (hl:l.length≤12000000) (hw:WfB l):Ct Tryz.prog 235 [rdN] [z04 l p] (.tup [nmV (z6v l p).1,lv (.int .i64 (z6v l p).2.2)]) [z04 l (z6v l p).2.1] []:=by
 have hho:=z1d 16
 have hop:=z26 l p (ofT 16) hp (by omega) hw
 have hoe:=z2s l p (ofT 16) hp (by omega) hw
 have hmem:=z0H l p (ofT 16)
 unfold z6v
 generalize z0r l p (ofT 16)=X at*
 obtain⟨x,q,e⟩:=X
 dsimp only at*
 by_cases he:e=0
 ·subst he
  have hop:=hop rfl
  rw[if_pos rfl]
  have hwx:WfB x:=fun y hy=>hw y (hmem.2 y hy)
  obtain⟨R,hR⟩:∃ R,z56 x (x.length+1) 0 []=R:=⟨_,rfl⟩
  rw[hR]
  refine z00 Tryz.func235 rfl rfl rfl rfl rfl (fun E hn hb=>?_)
  repeat refine nxw ?_
  refine z6x [77] [(3,0),(3,77)] ?_
  repeat (first | refine lo1 ?_ | refine nx ?_ | refine z7h [0] hn hop ?_)
  refine z09 (St.le_of (l:= [(4,.c (.ptr 77 0)),(6,.c (.own 83 1 0 (nmR []).length))]) (h:= [(0,z04 l q),(77,z04 x 0),(83,.row (.recs 1 (nmR [])))]) (by refine⟨?_,?_⟩<;>(repeat' (first | exact trivial | exact rfl | refine⟨?_,?_⟩))<;>first | exact rfl |(simp; done) | skip)) ?_
  refine z0k (ι:= {s:Nat×Nat×List (List AtT)//s.2.1≤x.length∧x.length -s.2.1<s.1∧s.2.2.length≤64∧z56 x s.1 s.2.1 s.2.2=R}) (fun s=>St.of [(4,.c (.ptr 77 0)),(6,.c (.own 83 1 0 (nmR s.1.2.2).length))] [(0,z04 l q),(77,z04 x s.1.2.1),(83,.row (.recs 1 (nmR s.1.2.2)))]) (fun s=>s.1.1) (fun s=>?_) ⟨(x.length+1,0,[]),Nat.zero_le _,by dsimp only; omega,by simp,hR⟩
  obtain⟨⟨f,pp,acc⟩,hpp,hf,h16,hx⟩:=s
  dsimp only at hpp hf h16 hx ⊢
  obtain⟨f,rfl⟩:∃ m,f=m+1:=⟨f -1,by omega⟩
  have hml:(nmR acc).length=acc.length:=List.length_map ..
  have hlf:=z0S x pp hpp (by omega)
  rw[z56] at hx
  by_cases hlt:pp<x.length
  ·rw[if_pos hlt] at hx
   by_cases h6:acc.length=64
   ·rw[if_pos h6] at hx
    subst hx
    repeat refine nx ?_
    exact rtU []
   ·rw[if_neg h6] at hx
    have hrd:=zgz x pp hpp (by omega) hwx
    have hle:=zdX x pp hpp
    by_cases he1:(z3H x pp).2.2=0
    ·have hk:=zkJ he1
     have hbk:= @z6m x pp (z2e x pp).2.1 (z2e x pp).1 hwx
     rw[hk] at hx hbk
     generalize z3H x pp=S at*
     obtain⟨s,q1,e1⟩:=S
     dsimp only at hrd hx hle he1 hbk
     subst he1
     rw[if_pos rfl] at hx
     have hpos:0<(z0g s).length:=z1n _ _
     have hll:=congrArg List.length (hbk rfl).2
     rw[List.length_append,List.length_drop,List.length_drop] at hll
     repeat refine nx ?_
     refine z08 ⟨(f,q1,acc++ [s]),hle.2,by dsimp only; omega,by simp; omega,hx⟩ (by dsimp only; omega) (St.le_of ⟨⟨rfl,?_⟩,⟨rfl,rfl,?_⟩⟩)
     ·dsimp only; rw[zcs]; rfl
     ·dsimp only; rw[zcs]; rfl
    ·have hk:=ziF he1
     have hk2:=(ziE (l:=x) (p:=pp) (by rw[hk]; exact he1)).1
     dsimp only at hx
     rw[hk,if_neg he1] at hx
     generalize z3H x pp=S at*
     obtain⟨s,q1,e1⟩:=S
     dsimp only at hrd hx hle he1
     subst hx
     repeat refine nx ?_
     exact rtU []
  ·rw[if_neg hlt] at hx
   obtain rfl:pp=x.length:=by omega
   subst hx
   repeat refine nx ?_
   refine z31 2 ?_
   exact rt1 []
 ·have hoe:=hoe he
  rw[if_neg he]
  refine z00 Tryz.func235 rfl rfl rfl rfl rfl (fun E hn hb=>?_)
  repeat refine nxw ?_
  refine z6x [] [(3,0)] ?_
  repeat (first | refine nx ?_ | refine z7h [0] hn hoe ?_)
  exact rtU []
theorem ziG (l:List Int) (p:Nat) (hp:p≤l.length) (hl:l.length≤12000000) (hw:WfB l):Ct Tryz.prog 220 [.c (.ptr 0 0)] [z04 l p] (.tup [nmV (z4Q l p).1,lv (.int .i64 (z4Q l p).2.2)]) [z04 l (z4Q l p).2.1] []:=by
 have h:=zkK l p hp hl hw
 have hle:=ze2 l p hp
 have h1:=z1z l p
 rw[zaW]
 generalize z6v l p=R at*
 obtain⟨x,q,e⟩:=R
 dsimp only at*
 by_cases he:e=0
 ·subst he
  rw[z34 _ _ _ rfl]
  refine z00 Tryz.func220 rfl rfl rfl rfl rfl (fun E hn hb=>?_)
  repeat refine nx ?_
  exact rt1 []
 ·rw[z3k _ _ _ he]
  have hbk:=z1L l q p hle.1 (by omega)
  refine z00 Tryz.func220 rfl rfl rfl rfl rfl (fun E hn hb=>?_)
  repeat refine nx ?_
  exact rtU []
theorem zkL (l:List Int) (p:Nat) (hp:p≤l.length):p≤(z4Q l p).2.1∧(z4Q l p).2.1≤l.length:=by
 rw[zaW]
 exact z52 _ _ _ _ (ze2 l p hp)
theorem zgI (b:List Int) (hl:b.length≤12000000) (hw:WfB b):Ct Tryz.prog 196 [B8 b] [] (.tup [nmV (z4J b).1,lv (.int .i64 (z4J b).2)]) [] []:=by
 have hcn:=z2l b (by omega)
 have h:=ziG b 0 (Nat.zero_le _) hl hw
 have hle:=zkL b 0 (Nat.zero_le _)
 unfold z4J
 generalize z4Q b 0=R at*
 obtain⟨x,q,e⟩:=R
 dsimp only at*
 by_cases he:e=0
 ·subst he
  rw[if_pos rfl]
  have hlf:=z0S b q hle.2 (by omega)
  by_cases hlt:q<b.length
  ·rw[if_pos hlt]
   refine z00 Tryz.func196 rfl rfl rfl rfl rfl (fun E hn hb=>?_)
   repeat refine nx ?_
   exact rtU []
  ·rw[if_neg hlt]
   refine z00 Tryz.func196 rfl rfl rfl rfl rfl (fun E hn hb=>?_)
   repeat refine nx ?_
   exact rt1 []
 ·rw[if_neg he]
  refine z00 Tryz.func196 rfl rfl rfl rfl rfl (fun E hn hb=>?_)
  repeat refine nx ?_
  exact rtU []
theorem zct (k:Int):Ct Tryz.prog 195 [lv (.int .i64 k)] [] (lv (.bool (z1K k))) [] []:=by
 refine z00 Tryz.func195 rfl rfl rfl rfl rfl (fun E hn hb=>?_)
 repeat refine nx ?_
 refine rt2 [] (congrArg (fun x=>lv (.bool x)) ?_) trivial
 have hb:∀ x:Int,(k==x)=decide (k=x):=fun x=>by rw[Bool.eq_iff_iff]; simp
 unfold z1K
 simp only[hb]
 generalize decide (k=0)=A
 generalize decide (k=3)=B
 generalize decide (k=4)=C
 cases A<;>cases B<;>cases C<;>rfl
theorem zgJ (k:Int):Ct Tryz.prog 171 [lv (.int .i64 k)] [] (lv (.bool (z1K k))) [] []:=by
 refine z00 Tryz.func171 rfl rfl rfl rfl rfl (fun E hn hb=>?_)
 repeat refine nx ?_
 refine rt2 [] (congrArg (fun x=>lv (.bool x)) ?_) trivial
 have hb:∀ x:Int,(k==x)=decide (k=x):=fun x=>by rw[Bool.eq_iff_iff]; simp
 unfold z1K
 simp only[hb]
 generalize decide (k=0)=A
 generalize decide (k=3)=B
 generalize decide (k=4)=C
 cases A<;>cases B<;>cases C<;>rfl
theorem zp3 (x:Int):Ct Tryz.prog 226 [lv (.int .u8 x)] [] (lv (.bool (decide (127<x)))) [] []:=by
 refine z00 Tryz.func226 rfl rfl rfl rfl rfl (fun E hn hb=>?_)
 repeat refine nx ?_
 exact rt1 []
def z5S:List Int→Nat→Int
 | [],_=> -1
 | x::l,n=>if 127<x then n else z5S l (n+1)
theorem zcu:∀(l:List Int) (n:Nat),(0≤z5S l n)↔¬ (l.all fun x=>decide (x≤127))=true
 | [],_=>by simp[z5S]
 | x::l,n=>by
   have ih:=zcu l (n+1)
   rw[z5S,List.all_cons]
   by_cases h:127<x
   ·rw[if_pos h,decide_eq_false (by omega)]
    simp
   ·rw[if_neg h,decide_eq_true (by omega),Bool.true_and]
    exact ih
theorem zfq {l:List Int} {i:Nat} (h:i<l.length):l.drop i=l.getD i 0::l.drop (i+1):=by
 rw[List.getD_eq_getElem?_getD,List.getElem?_eq_getElem h]
 exact List.drop_eq_getElem_cons h
set_option maxHeartbeats 4000000 in
theorem zkM (b:List Int) (hl:b.length≤16000000):Ct Tryz.prog 237 [B8 b,.c (.fn (.func 226) [] [])] [] (lv (.int .i64 (z5S b 0))) [] []:=by
 refine z00 Tryz.func237 rfl rfl rfl rfl rfl (fun E hn hb=>?_)
 repeat refine nx ?_
 refine z09 (St.le_of (l:= [(0,B8 b),(1,.c (.fn (.func 226) [] [])),(7,lv (.int .i64 (b.length:Int))),(8,lv (.int .i64 ((0:Nat):Int)))]) (h:= []) (by refine⟨?_,?_⟩<;>(repeat' (first | exact trivial | exact rfl | refine⟨?_,?_⟩))<;>first | exact rfl |(simp; done) | skip)) ?_
 refine z0k (ι:= {i:Nat//i≤b.length∧z5S (b.drop i) i=z5S b 0}) (fun i=>St.of [(0,B8 b),(1,.c (.fn (.func 226) [] [])),(7,lv (.int .i64 (b.length:Int))),(8,lv (.int .i64 (i.1:Int)))] []) (fun i=>b.length -i.1) (fun i=>?_) ⟨0,Nat.zero_le _,rfl⟩
 obtain⟨i,hi,hx⟩:=i
 dsimp only
 by_cases hi2:i<b.length
 ·have hq:b.getD (i:Int).toNat 0=b.getD i 0:=rfl
  rw[zfq hi2,z5S] at hx
  have hc:=zp3 (b.getD i 0)
  generalize hX:b.getD i 0=X at*
  by_cases h:127<X
  ·rw[if_pos h] at hx
   rw[decide_eq_true h] at hc
   repeat (first | refine nx ?_ | rw[hq])
   rw[hx]
   exact rt1 []
  ·rw[if_neg h] at hx
   rw[decide_eq_false h] at hc
   repeat (first | refine nx ?_ | rw[hq])
   refine z08 ⟨i+1,hi2,hx⟩ (by dsimp only; omega) (St.le_of ⟨⟨rfl,rfl,rfl,rfl⟩,trivial⟩)
 ·obtain rfl:i=b.length:=by omega
  rw[List.drop_length,z5S] at hx
  rw[←hx]
  repeat refine nx ?_
  exact rt1 []
theorem ziH (b:List Int) (hl:b.length≤16000000):Ct Tryz.prog 209 [B8 b] [] (lv (.bool (z3A b))) [] []:=by
 have hi:=zkM b hl
 have hc:Ct Tryz.prog 225 [B8 b,.c (.fn (.func 226) [] [])] [] (lv (.bool (decide (0≤z5S b 0)))) [] []:=by
  refine z00 Tryz.func225 rfl rfl rfl rfl rfl (fun E hn hb=>?_)
  repeat refine nx ?_
  exact rt1 []
 have ha:=zcu b 0
 unfold z3A
 generalize z5S b 0=I at*
 refine z00 Tryz.func209 rfl rfl rfl rfl rfl (fun E hn hb=>?_)
 repeat refine nx ?_
 refine rt2 [] (congrArg (fun x=>lv (.bool x)) ?_) trivial
 by_cases h0:b.length=0
 ·simp[h0]
 ·have:0<b.length:=by omega
  by_cases hI:0≤I
  ·have:=ha.1 hI
   simp only[Bool.not_eq_true] at this
   rw[this]
   simp[hI]
  ·have h2:(b.all fun x=>decide (x≤127))=true:=by
    exact Decidable.byContradiction fun h=>hI (ha.2 h)
   rw[h2,decide_eq_true this,decide_eq_true (by omega:(0:Int)<b.length),decide_eq_false hI]
   rfl
theorem zfr (b:List Int) (hl:b.length≤12000000) (hw:WfB b):Ct Tryz.prog 211 [B8 b] [] (lv (.bool (z4q b))) [] []:=by
 have hcn:=z2l b (by omega)
 have hwh:=zbi b 0 (Nat.zero_le _) hl hw
 unfold z4q
 generalize z12 b 0=W at*
 obtain⟨rs,e⟩:=W
 dsimp only at*
 by_cases he:e=0
 ·subst he
  rw[if_pos rfl] at hwh
  refine z00 Tryz.func211 rfl rfl rfl rfl rfl (fun E hn hb=>?_)
  repeat refine nx ?_
  refine rt2 [] (congrArg (fun x=>lv (.bool x)) ?_) trivial
  simp
 ·rw[if_neg he] at hwh
  rw[decide_eq_false he]
  refine z00 Tryz.func211 rfl rfl rfl rfl rfl (fun E hn hb=>?_)
  repeat refine nx ?_
  refine rt2 [] (congrArg (fun x=>lv (.bool x)) ?_) trivial
  simp[he]
theorem zfs {k:Int} (b:List Int) (h0:k≠0) (h1:k≠1) (h2:k≠2) (h3:k≠3) (h5:k≠5) (h6:k≠6) (h7:k≠7) (h8:k≠8):z4d k b=false:=by
 unfold z4d
 rw[if_neg (by omega),if_neg h7,if_neg h8,if_neg (by omega)]
set_option maxHeartbeats 4000000 in
theorem zbJ (k:Int) (b:List Int) (hl:b.length≤12000000) (hw:WfB b):Ct Tryz.prog 180 [lv (.int .i64 k),B8 b] [] (lv (.bool (z4d k b))) [] []:=by
 have hp:=ziH b (by omega)
 have ho:=zbc b (by omega) hw
 have hh:=zfr b hl hw
 by_cases h1:k=1
 ·subst h1
  show Ct _ _ _ _ (lv (.bool (z3A b))) _ _
  refine z00 Tryz.func180 rfl rfl rfl rfl rfl (fun E hn hb=>?_)
  repeat refine nx ?_
  exact rt1 []
 by_cases h2:k=2
 ·subst h2
  show Ct _ _ _ _ (lv (.bool (z3A b))) _ _
  refine z00 Tryz.func180 rfl rfl rfl rfl rfl (fun E hn hb=>?_)
  repeat refine nx ?_
  exact rt1 []
 by_cases h6:k=6
 ·subst h6
  show Ct _ _ _ _ (lv (.bool (z3A b))) _ _
  refine z00 Tryz.func180 rfl rfl rfl rfl rfl (fun E hn hb=>?_)
  repeat refine nx ?_
  exact rt1 []
 by_cases h7:k=7
 ·subst h7
  show Ct _ _ _ _ (lv (.bool (decide (b.length=4)||decide (b.length=16)))) _ _
  refine z00 Tryz.func180 rfl rfl rfl rfl rfl (fun E hn hb=>?_)
  repeat refine nx ?_
  refine rt2 [] (congrArg (fun x=>lv (.bool x)) ?_) trivial
  by_cases h4:b.length=4
  ·simp[h4]
  ·by_cases h16:b.length=16
   ·simp[h16]
   ·rw[show((b.length:Int)==4)=false by rw[beq_eq_false_iff_ne]; omega,show((b.length:Int)==16)=false by rw[beq_eq_false_iff_ne]; omega]
    simp[h4,h16]
 by_cases h8:k=8
 ·subst h8
  show Ct _ _ _ _ (lv (.bool (decide ((z2J b).2=0)))) _ _
  refine z00 Tryz.func180 rfl rfl rfl rfl rfl (fun E hn hb=>?_)
  repeat refine nx ?_
  exact rt1 []
 by_cases h0:k=0
 ·subst h0
  show Ct _ _ _ _ (lv (.bool (z4q b))) _ _
  refine z00 Tryz.func180 rfl rfl rfl rfl rfl (fun E hn hb=>?_)
  repeat refine nx ?_
  exact rt1 []
 by_cases h3:k=3
 ·subst h3
  show Ct _ _ _ _ (lv (.bool (z4q b))) _ _
  refine z00 Tryz.func180 rfl rfl rfl rfl rfl (fun E hn hb=>?_)
  repeat refine nx ?_
  exact rt1 []
 by_cases h5:k=5
 ·subst h5
  show Ct _ _ _ _ (lv (.bool (z4q b))) _ _
  refine z00 Tryz.func180 rfl rfl rfl rfl rfl (fun E hn hb=>?_)
  repeat refine nx ?_
  exact rt1 []
 rw[zfs b h0 h1 h2 h3 h5 h6 h7 h8]
 refine z00 Tryz.func180 rfl rfl rfl rfl rfl (fun E hn hb=>?_)
 repeat refine nx ?_
 exact rt1 []
abbrev gnL (g:GnT):List Leaf:= [.v (.int .i64 g.1),.ints .u8 g.2.1,nmL g.2.2]
abbrev gnA (g:GnT):Av:= .agg [.lf (.v (.int .i64 g.1)),.lf (.ints .u8 g.2.1),.lf (nmL g.2.2)]
structure GnB (g:GnT):Prop where
 l:g.2.1.length≤12000000
 w:WfB g.2.1
 n:NmB g.2.2
theorem z5k (g:GnT) (h:GnB g):Ct Tryz.prog 137 [gnA g] [] (lv (.bool (z0G g))) [] []:=by
 obtain⟨k,b,n⟩:=g
 obtain⟨hl,hw,hn1⟩:=h
 dsimp only at hl hw hn1
 have hr:=z70 n hn1
 have hc:=zbJ k b hl hw
 have hml:(nmR n).length=n.length:=List.length_map ..
 unfold z0G
 dsimp only
 by_cases hk:k=4
 ·subst hk
  rw[if_pos rfl]
  generalize z15 n=N at*
  refine z00 Tryz.func137 rfl rfl rfl rfl rfl (fun E hn hb=>?_)
  repeat refine nx ?_
  refine rt2 [] (congrArg (fun x=>lv (.bool x)) ?_) trivial
  by_cases h0:b.length=0
  ·simp[h0]
  ·rw[show((b.length:Int)==0)=false by rw[beq_eq_false_iff_ne]; omega]
   simp[h0]
 ·rw[if_neg hk]
  generalize z4d k b=C at*
  refine z00 Tryz.func137 rfl rfl rfl rfl rfl (fun E hn hb=>?_)
  repeat refine nx ?_
  refine rt2 [] (congrArg (fun x=>lv (.bool x)) ?_) trivial
  rw[hml]
  by_cases h0:n.length=0
  ·simp[h0]
  ·rw[show((n.length:Int)==0)=false by rw[beq_eq_false_iff_ne]; omega]
   simp[h0]
abbrev z73:Cell:= .lf (.v (.slice none 0 0))
theorem z5l:z3q (.agg [.lf (.v (.int .i64 0)),z73,z73]) (gnA gn0):=⟨.inl rfl,.inr ⟨rfl,.inl ⟨_,rfl⟩⟩,.inr ⟨rfl,.inr ⟨_,rfl⟩⟩,trivial⟩
theorem zgK (k:Int) (b:List Int):z3q (.agg [.lf (.v (.int .i64 k)),.lf (.ints .u8 b),z73]) (gnA (k,b,[])):=⟨.inl rfl,.inl rfl,.inr ⟨rfl,.inr ⟨_,rfl⟩⟩,trivial⟩
theorem zgL (k:Int) (n:List (List AtT)):z3q (.agg [.lf (.v (.int .i64 k)),z73,.lf (nmL n)]) (gnA (k,[],n)):=⟨.inl rfl,.inr ⟨rfl,.inl ⟨_,rfl⟩⟩,.inl rfl,trivial⟩
theorem ze3:NmB []:=⟨by simp,fun r hr=>by simp at hr⟩
theorem ze4 {l:List Int} (hw:WfB l) (r n:Nat):WfB ((l.drop r).take n):=fun z hz=>hw z (List.mem_of_mem_drop (List.mem_of_mem_take hz))
theorem zkN {n:List (List AtT)}:z0G (4,[],n)=z15 n:=by
 unfold z0G
 simp
theorem zp4 {k:Int} {b:List Int} {g:GnT} (hw:WfB b) (hl:b.length≤12000000) (h:z6z k b=(g,0)):GnB g:=by
 unfold z6z at h
 by_cases hk:k=4
 ·rw[if_pos hk] at h
  have hB:= @zgH b (z4J b).1 hw hl
  generalize z4J b=M at*
  obtain⟨m,e⟩:=M
  dsimp only at h hB
  by_cases he:e=0
  ·subst he
   rw[if_pos rfl] at h
   by_cases ho:z0G (4,[],m)=true
   ·rw[if_pos ho] at h
    simp only[Prod.mk.injEq] at h
    obtain⟨rfl,_⟩:=h
    exact⟨by simp,fun z hz=>by simp at hz,(hB rfl).2⟩
   ·rw[if_neg ho] at h; simp at h
  ·rw[if_neg he] at h
   simp only[Prod.mk.injEq] at h
   exact absurd h.2 he
 ·rw[if_neg hk] at h
  by_cases ho:z0G (k,b,[])=true
  ·rw[if_pos ho] at h
   simp only[Prod.mk.injEq] at h
   obtain⟨rfl,_⟩:=h
   exact⟨hl,hw,ze3⟩
  ·rw[if_neg ho] at h; simp at h
abbrev gnE (g:GnT) (e:Int):Av:= .tup [gnA g,lv (.int .i64 e)]
set_option maxHeartbeats 16000000 in
theorem ziI (l:List Int) (p:Nat) (hp:p≤l.length) (hl:l.length≤12000000) (hw:WfB l):Ct Tryz.prog 165 [.c (.ptr 0 0)] [z04 l p] (gnE (z2z l p).1 (z2z l p).2.2) [z04 l (z2z l p).2.1] []:=by
 have hr:=z5g l p hp (by omega) hw
 have hle:=z1k l p hp
 have hpos:=z2B l p hw
 unfold z2z
 generalize z0d l p=R at*
 obtain⟨⟨⟨c,k,m⟩,n⟩,r,e⟩:=R
 dsimp only at*
 by_cases he:e=0
 ·subst he
  rw[if_pos rfl]
  have hmd:=zct k
  by_cases hc:c=2
  ·by_cases h8:8<k
   ·rw[if_pos (.inr (.inl h8))]
    generalize z1K k=M at*
    subst hc
    refine z00 Tryz.func165 rfl rfl rfl rfl rfl (fun E hn hb=>?_)
    repeat refine nx ?_
    refine rtU [] (hu:=?_)
    exact⟨z5l,.inl rfl,trivial⟩
   ·by_cases hm:m=z1K k
    ·rw[if_neg (by rintro(h | h | h); exact h hc; exact h8 h; exact h hm)]
     subst hc
     rw[←hm] at hmd
     obtain⟨N,rfl⟩:∃ N:Nat,n=N:=⟨n.toNat,by omega⟩
     by_cases hN:(l.length:Int) -r<N
     ·rw[if_pos hN]
      have htk:=z92 l r N (by omega) hle.2 hN (by omega)
      clear hm
      refine z00 Tryz.func165 rfl rfl rfl rfl rfl (fun E hn hb=>?_)
      repeat refine nx ?_
      refine rtU [] (hu:=?_)
      exact⟨z5l,.inl rfl,trivial⟩
     ·rw[if_neg hN,Int.toNat_natCast]
      have htk:=z6A l r N (by omega) (by omega)
      have hwb:=ze4 hw r N
      have hlb:((l.drop r).take N).length≤12000000:=by simp; omega
      clear hm
      generalize (l.drop r).take N=b at*
      unfold z6z
      by_cases hk:k=4
      ·subst hk
       rw[if_pos rfl]
       have hpa:=zgI b hlb hwb
       have hB:= @zgH b (z4J b).1 hwb hlb
       generalize z4J b=A at*
       obtain⟨a,f⟩:=A
       dsimp only at hpa hB ⊢
       by_cases hf:f=0
       ·subst hf
        obtain⟨b1,b2⟩:=hB rfl
        have hg:=zgp (args':= [.agg [.lf (.v (.int .i64 4)),z73,.lf (nmL a)]]) (z5k (4,[],a) ⟨by simp,fun z hz=>by simp at hz,b2⟩) ⟨zgL 4 a,trivial⟩
        rw[if_pos rfl]
        have hgo:z0G (4,[],a)=true:=zkN.trans b1
        rw[hgo] at hg
        rw[if_pos hgo]
        refine z00 Tryz.func165 rfl rfl rfl rfl rfl (fun E hn hb=>?_)
        repeat refine nx ?_
        refine rtU [] (hu:=?_)
        exact⟨zgL 4 a,.inl rfl,trivial⟩
       ·rw[if_neg hf]
        refine z00 Tryz.func165 rfl rfl rfl rfl rfl (fun E hn hb=>?_)
        repeat refine nx ?_
        refine rtU [] (hu:=?_)
        exact⟨z5l,.inl rfl,trivial⟩
      ·rw[if_neg hk]
       have hg:=zgp (args':= [.agg [.lf (.v (.int .i64 k)),.lf (.ints .u8 b),z73]]) (z5k (k,b,[]) ⟨hlb,hwb,ze3⟩) ⟨zgK k b,trivial⟩
       by_cases hgo:z0G (k,b,[])=true
       ·rw[hgo] at hg
        rw[if_pos hgo]
        refine z00 Tryz.func165 rfl rfl rfl rfl rfl (fun E hn hb=>?_)
        repeat refine nx ?_
        refine rtU [] (hu:=?_)
        exact⟨zgK k b,.inl rfl,trivial⟩
       ·rw[Bool.eq_false_iff.2 hgo] at hg
        rw[if_neg hgo]
        refine z00 Tryz.func165 rfl rfl rfl rfl rfl (fun E hn hb=>?_)
        repeat refine nx ?_
        refine rtU [] (hu:=?_)
        exact⟨z5l,.inl rfl,trivial⟩
    ·rw[if_pos (.inr (.inr hm))]
     subst hc
     generalize z1K k=M at*
     obtain rfl:M=!m:=by cases m<;>cases M<;>simp_all
     cases m with
     | false=>
       refine z00 Tryz.func165 rfl rfl rfl rfl rfl (fun E hn hb=>?_)
       repeat refine nx ?_
       refine rtU [] (hu:=?_)
       exact⟨z5l,.inl rfl,trivial⟩
     | true=>
       refine z00 Tryz.func165 rfl rfl rfl rfl rfl (fun E hn hb=>?_)
       repeat refine nx ?_
       refine rtU [] (hu:=?_)
       exact⟨z5l,.inl rfl,trivial⟩
  ·rw[if_pos (.inl hc)]
   generalize z1K k=M at*
   refine z00 Tryz.func165 rfl rfl rfl rfl rfl (fun E hn hb=>?_)
   repeat refine nx ?_
   refine rtU [] (hu:=?_)
   exact⟨z5l,.inl rfl,trivial⟩
 ·rw[if_neg he]
  refine z00 Tryz.func165 rfl rfl rfl rfl rfl (fun E hn hb=>?_)
  repeat refine nx ?_
  refine rtU [] (hu:=?_)
  exact⟨z5l,.inl rfl,trivial⟩
end Go.Proofs.YtaagjnlkinojcaaGreat

/-
  Chapter 15: general names that are right, both sides. The conditions: rows that a machine can hold.
-/
import Derived.Test.YtaagjnlkinojcaaGreatQ6
import Derived.Test.YtaagjnlkinojcaaGreatB4
namespace Go.Proofs.YtaagjnlkinojcaaGreat
set_option linter.unusedSimpArgs false
set_option linter.unusedVariables false
open Go.Sx
set_option maxRecDepth 10000
theorem z7E (t:z0g) (b:List Int):(∀ z ∈ b,z ∈ z04 t b)∧b.length≤(z04 t b).length:=by
 unfold z04
 exact⟨fun z hz=>List.mem_append_right _ hz,by simp only[List.length_append]; omega⟩
theorem zbW {α:Type} {f:α→List Int} {l:List α} {a:α} (h:a ∈ l):(∀ z ∈ f a,z ∈ l.flatMap f)∧(f a).length≤(l.flatMap f).length:=by
 refine⟨fun z hz=>List.mem_flatMap.2 ⟨a,h,hz⟩,?_⟩
 obtain⟨s,t,rfl⟩:=List.append_of_mem h
 rw[List.flatMap_append,List.flatMap_cons]
 simp only[List.length_append]
 omega
theorem zhQ {o:List Int} (h:z0V o=true):o.length≤16000000:=by
 obtain⟨_,_,t,ho,_,_,_,_,ht,_⟩:=z3W h
 rw[ho]
 simp
 omega
theorem zr5 {a:AtT} (h:z1w a=true) (hw:WfB (atW a)) (hl:(atW a).length≤12000000):AtB a:=by
 unfold z1w at h
 rw[Bool.and_eq_true] at h
 have h1:=z7E (ofT 16) ((z1o a.1).1++a.2)
 rw[List.length_append] at h1
 change _∧_≤(atW a).length at h1
 exact⟨zhQ h.1,by omega,fun z hz=>hw z (h1.1 z (List.mem_append_right _ hz))⟩
theorem zdN {r:List AtT} (h:z0D r=true) (hw:WfB (z0i r)) (hl:(z0i r).length≤12000000):r.length≤16000000∧∀ a ∈ r,AtB a:=by
 obtain⟨_,h2,h3,_⟩:=z3X h
 refine⟨by omega,fun a ha=>?_⟩
 have h4:=z7E (ofT 17) (r.flatMap atW)
 have h5:=zbW (f:=atW) ha
 change _∧_≤(z0i r).length at h4
 exact zr5 (h3 a ha) (fun z hz=>hw z (h4.1 z (h5.1 z hz))) (by omega)
theorem zkc {n:List (List AtT)} (h:z15 n=true) (hw:WfB (z1M n)) (hl:(z1M n).length≤12000000):NmB n:=by
 obtain⟨h1,h2⟩:=z9E h
 refine⟨by omega,fun r hr=>?_⟩
 have h4:=z7E (ofT 16) (n.flatMap z0i)
 have h5:=zbW (f:=z0i) hr
 change _∧_≤(z1M n).length at h4
 exact zdN (h2 r hr) (fun z hz=>hw z (h4.1 z (h5.1 z hz))) (by omega)
theorem zbX {b:List Int} {n:List (List AtT)} (hw:WfB b) (hl:b.length≤12000000) (h:z3v b=(n,0)):z15 n=true∧NmB n:=by
 obtain⟨h1,rfl⟩:=zbA hw h
 exact⟨h1,zkc h1 hw hl⟩
theorem zhR {l:List Int} {p:Nat} (h:¬ (z1m l p).2.2=0):(z1m l p).1= []∧(z1m l p).2.1=p:=by
 rw[z6b] at h ⊢
 unfold z0M at h ⊢
 by_cases h2:(z3G l p).2.2=0
 ·rw[if_pos h2] at h; exact absurd h2 h
 ·rw[if_neg h2]; exact⟨rfl,rfl⟩
theorem zhS {l:List Int} {p:Nat} (h:¬ (z3G l p).2.2=0):(z1m l p).2.2=(z3G l p).2.2:=by
 rw[z6b]
 unfold z0M
 rw[if_neg h]
theorem zkd {l:List Int} {p:Nat} (h:(z3G l p).2.2=0):z1m l p=z3G l p:=by
 rw[z6b]
 unfold z0M
 rw[if_pos h]
def z5E (l:List Int) (p:Nat):List (List AtT)×Nat×Int:=
 let r:=z0m l p (ofT 16)
 if r.2.2=0 then((z44 r.1 (r.1.length+1) 0 []).1,r.2.1,(z44 r.1 (r.1.length+1) 0 []).2) else([],p,r.2.2)
theorem zdO (l:List Int) (p:Nat) (hp:p≤l.length):p≤(z5E l p).2.1∧(z5E l p).2.1≤l.length:=by
 have h:=z3Q l p (ofT 16) hp
 unfold z5E
 dsimp only
 split
 ·exact h
 ·exact⟨Nat.le_refl _,hp⟩
theorem z7F (l:List Int) (p:Nat):z2I l p=z0M [] p (z5E l p):=by
 unfold z2I z5E z0M
 dsimp only
 split
 ·split
  ·rename_i h1 h2; rw[h2]
  ·rfl
 ·rfl
abbrev nmR (n:List (List AtT)):List (List Leaf):=n.map fun r=> [z2g r]
theorem z6J (n:List (List AtT)) (r:List AtT):nmR (n++ [r])=nmR n++ [[z2g r]]:=List.map_append
set_option maxHeartbeats 16000000 in
theorem zke (l:List Int) (p:Nat) (hp:p≤l.length) (hl:l.length≤12000000) (hw:WfB l):Ct Tryz.prog 235 [rdN] [z05 l p] (.tup [nmV (z5E l p).1,lv (.int .i64 (z5E l p).2.2)]) [z05 l (z5E l p).2.1] []:=by
 have hho:=z1G 16
 have hop:=z2m l p (ofT 16) hp (by omega) hw
 have hoe:=z31 l p (ofT 16) hp (by omega) hw
 have hmem:=z0H l p (ofT 16)
 unfold z5E
 generalize z0m l p (ofT 16)=X at*
 obtain⟨x,q,e⟩:=X
 dsimp only at*
 by_cases he:e=0
 ·subst he
  have hop:=hop rfl
  rw[if_pos rfl]
  have hwx:WfB x:=fun y hy=>hw y (hmem.2 y hy)
  obtain⟨R,hR⟩:∃ R,z44 x (x.length+1) 0 []=R:=⟨_,rfl⟩
  rw[hR]
  refine z00 Tryz.func235 rfl rfl rfl rfl rfl (fun E hn hb=>?_)
  repeat refine nxw ?_
  refine z6l [77] [(3,0),(3,77)] ?_
  repeat (first | refine lo1 ?_ | refine nx ?_ | refine z6V [0] hn hop ?_)
  refine z09 (St.le_of (l:= [(4,.c (.ptr 77 0)),(6,.c (.own 83 1 0 (nmR []).length))]) (h:= [(0,z05 l q),(77,z05 x 0),(83,.row (.recs 1 (nmR [])))]) (by refine⟨?_,?_⟩<;>(repeat' (first | exact trivial | exact rfl | refine⟨?_,?_⟩))<;>first | exact rfl |(simp; done) | skip)) ?_
  refine z0h (ι:= {s:Nat×Nat×List (List AtT)//s.2.1≤x.length∧x.length -s.2.1<s.1∧s.2.2.length≤64∧z44 x s.1 s.2.1 s.2.2=R}) (fun s=>St.of [(4,.c (.ptr 77 0)),(6,.c (.own 83 1 0 (nmR s.1.2.2).length))] [(0,z05 l q),(77,z05 x s.1.2.1),(83,.row (.recs 1 (nmR s.1.2.2)))]) (fun s=>s.1.1) (fun s=>?_) ⟨(x.length+1,0,[]),Nat.zero_le _,by dsimp only; omega,by simp,hR⟩
  obtain⟨⟨f,pp,acc⟩,hpp,hf,h16,hx⟩:=s
  dsimp only at hpp hf h16 hx ⊢
  obtain⟨f,rfl⟩:∃ m,f=m+1:=⟨f -1,by omega⟩
  have hml:(nmR acc).length=acc.length:=List.length_map ..
  have hlf:=z1b x pp hpp (by omega)
  rw[z44] at hx
  by_cases hlt:pp<x.length
  ·rw[if_pos hlt] at hx
   by_cases h6:acc.length=64
   ·rw[if_pos h6] at hx
    subst hx
    repeat refine nx ?_
    exact rtU []
   ·rw[if_neg h6] at hx
    have hrd:=zgO x pp hpp (by omega) hwx
    have hle:=ze6 x pp hpp
    by_cases he1:(z3G x pp).2.2=0
    ·have hk:=zkd he1
     have hbk:= @z6g x pp (z1m x pp).2.1 (z1m x pp).1 hwx
     rw[hk] at hx hbk
     generalize z3G x pp=S at*
     obtain⟨s,q1,e1⟩:=S
     dsimp only at hrd hx hle he1 hbk
     subst he1
     rw[if_pos rfl] at hx
     have hpos:0<(z0i s).length:=z1U _ _
     have hll:=congrArg List.length (hbk rfl).2
     rw[List.length_append,List.length_drop,List.length_drop] at hll
     repeat refine nx ?_
     refine z07 ⟨(f,q1,acc++ [s]),hle.2,by dsimp only; omega,by simp; omega,hx⟩ (by dsimp only; omega) (St.le_of ⟨⟨rfl,?_⟩,⟨rfl,rfl,?_⟩⟩)
     ·dsimp only; rw[z6J]; rfl
     ·dsimp only; rw[z6J]; rfl
    ·have hk:=zhS he1
     have hk2:=(zhR (l:=x) (p:=pp) (by rw[hk]; exact he1)).1
     dsimp only at hx
     rw[hk,if_neg he1] at hx
     generalize z3G x pp=S at*
     obtain⟨s,q1,e1⟩:=S
     dsimp only at hrd hx hle he1
     subst hx
     repeat refine nx ?_
     exact rtU []
  ·rw[if_neg hlt] at hx
   obtain rfl:pp=x.length:=by omega
   subst hx
   repeat refine nx ?_
   refine z2d 2 ?_
   exact rt1 []
 ·have hoe:=hoe he
  rw[if_neg he]
  refine z00 Tryz.func235 rfl rfl rfl rfl rfl (fun E hn hb=>?_)
  repeat refine nxw ?_
  refine z6l [] [(3,0)] ?_
  repeat (first | refine nx ?_ | refine z6V [0] hn hoe ?_)
  exact rtU []
theorem zhT (l:List Int) (p:Nat) (hp:p≤l.length) (hl:l.length≤12000000) (hw:WfB l):Ct Tryz.prog 220 [.c (.ptr 0 0)] [z05 l p] (.tup [nmV (z2I l p).1,lv (.int .i64 (z2I l p).2.2)]) [z05 l (z2I l p).2.1] []:=by
 have h:=zke l p hp hl hw
 have hle:=zdO l p hp
 have h1:=z1W l p
 rw[z7F]
 generalize z5E l p=R at*
 obtain⟨x,q,e⟩:=R
 dsimp only at*
 by_cases he:e=0
 ·subst he
  rw[z2s _ _ _ rfl]
  refine z00 Tryz.func220 rfl rfl rfl rfl rfl (fun E hn hb=>?_)
  repeat refine nx ?_
  exact rt1 []
 ·rw[z1v _ _ _ he]
  have hbk:=z24 l q p hle.1 (by omega)
  refine z00 Tryz.func220 rfl rfl rfl rfl rfl (fun E hn hb=>?_)
  repeat refine nx ?_
  exact rtU []
theorem zdP (l:List Int) (p:Nat) (hp:p≤l.length):p≤(z2I l p).2.1∧(z2I l p).2.1≤l.length:=by
 rw[z7F]
 exact z4W _ _ _ _ (zdO l p hp)
theorem zfU (b:List Int) (hl:b.length≤12000000) (hw:WfB b):Ct Tryz.prog 196 [B8 b] [] (.tup [nmV (z3v b).1,lv (.int .i64 (z3v b).2)]) [] []:=by
 have hcn:=z2f b (by omega)
 have h:=zhT b 0 (Nat.zero_le _) hl hw
 have hle:=zdP b 0 (Nat.zero_le _)
 unfold z3v
 generalize z2I b 0=R at*
 obtain⟨x,q,e⟩:=R
 dsimp only at*
 by_cases he:e=0
 ·subst he
  rw[if_pos rfl]
  have hlf:=z1b b q hle.2 (by omega)
  by_cases hlt:q<b.length
  ·rw[if_pos hlt]
   refine z00 Tryz.func196 rfl rfl rfl rfl rfl (fun E hn hb=>?_)
   repeat refine nx ?_
   exact rtU []
  ·rw[if_neg hlt]
   refine z00 Tryz.func196 rfl rfl rfl rfl rfl (fun E hn hb=>?_)
   repeat refine nx ?_
   exact rt1 []
 ·rw[if_neg he]
  refine z00 Tryz.func196 rfl rfl rfl rfl rfl (fun E hn hb=>?_)
  repeat refine nx ?_
  exact rtU []
set_option maxHeartbeats 16000000 in
theorem zeE (l:List Int) (p:Nat) (hp:p≤l.length) (hl:l.length≤12000000) (hw:WfB l):Ct Tryz.prog 198 [B8 l,lv (.int .i64 (p:Int))] [] (.tup [nmV (z2I l p).1,lv (.int .i64 ((z2I l p).2.1:Int)),lv (.int .i64 (z2I l p).2.2)]) [] []:=by
 have hof:=z2h 16
 have hop:=z3p l p (ofT 16) hp (by omega) hw
 have hmem:=z0H l p (ofT 16)
 obtain⟨Z,hZ⟩:∃ Z,z2I l p=Z:=⟨_,rfl⟩
 rw[hZ]
 unfold z2I at hZ
 generalize z0m l p (ofT 16)=X at*
 obtain⟨x,q,e⟩:=X
 dsimp only at*
 by_cases he:e=0
 ·subst he
  rw[if_pos rfl] at hZ
  have hwx:WfB x:=fun y hy=>hw y (hmem.2 y hy)
  obtain⟨R,hR⟩:∃ R,z44 x (x.length+1) 0 []=R:=⟨_,rfl⟩
  rw[hR] at hZ
  refine z00 Tryz.func198 rfl rfl rfl rfl rfl (fun E hn hb=>?_)
  repeat refine nx ?_
  refine z0N 10 900 1 (.recs 1 []) rfl rfl (.inr (.inr ⟨_,rfl⟩)) ?_
  refine z09 (St.le_of (l:= [(1,lv (.int .i64 (p:Int))),(7,B8 x),(8,lv (.int .i64 (q:Int))),(10,.c (.own 900 1 0 (nmR []).length)),(11,lv (.int .i64 ((0:Nat):Int)))]) (h:= [(900,.row (.recs 1 (nmR [])))]) (by refine⟨?_,?_⟩<;>(repeat' (first | exact trivial | exact rfl | refine⟨?_,?_⟩))<;>first | exact rfl |(simp; done) | skip)) ?_
  refine z0h (ι:= {s:Nat×Nat×List (List AtT)//s.2.1≤x.length∧x.length -s.2.1<s.1∧s.2.2.length≤64∧z44 x s.1 s.2.1 s.2.2=R}) (fun s=>St.of [(1,lv (.int .i64 (p:Int))),(7,B8 x),(8,lv (.int .i64 (q:Int))),(10,.c (.own 900 1 0 (nmR s.1.2.2).length)),(11,lv (.int .i64 (s.1.2.1:Int)))] [(900,.row (.recs 1 (nmR s.1.2.2)))]) (fun s=>s.1.1) (fun s=>?_) ⟨(x.length+1,0,[]),Nat.zero_le _,by dsimp only; omega,by simp,hR⟩
  obtain⟨⟨f,pp,acc⟩,hpp,hf,h16,hx⟩:=s
  dsimp only at hpp hf h16 hx ⊢
  obtain⟨f,rfl⟩:∃ m,f=m+1:=⟨f -1,by omega⟩
  have hml:(nmR acc).length=acc.length:=List.length_map ..
  rw[z44] at hx
  by_cases hlt:pp<x.length
  ·rw[if_pos hlt] at hx
   by_cases h6:acc.length=64
   ·rw[if_pos h6] at hx
    subst hx
    rw[if_neg (by simp)] at hZ
    subst hZ
    repeat refine nx ?_
    exact rtU []
   ·rw[if_neg h6] at hx
    have hrd:=z81 x pp hpp (by omega) hwx
    have hle:=zek x pp hpp
    have hbk:= @z6g x pp (z1m x pp).2.1 (z1m x pp).1 hwx
    generalize z1m x pp=S at*
    obtain⟨s,q1,e1⟩:=S
    dsimp only at hrd hx hle hbk
    by_cases he1:e1=0
    ·subst he1
     rw[if_pos rfl] at hx
     have hpos:0<(z0i s).length:=z1U _ _
     have hll:=congrArg List.length (hbk rfl).2
     rw[List.length_append,List.length_drop,List.length_drop] at hll
     repeat refine nx ?_
     refine z07 ⟨(f,q1,acc++ [s]),hle.2,by dsimp only; omega,by simp; omega,hx⟩ (by dsimp only; omega) (St.le_of ⟨⟨rfl,rfl,rfl,?_,rfl⟩,?_⟩)
     ·dsimp only; rw[z6J]; rfl
     ·dsimp only; rw[z6J]; rfl
    ·rw[if_neg he1] at hx
     subst hx
     rw[if_neg he1] at hZ
     subst hZ
     repeat refine nx ?_
     exact rtU []
  ·rw[if_neg hlt] at hx
   obtain rfl:pp=x.length:=by omega
   subst hx
   rw[if_pos rfl] at hZ
   subst hZ
   repeat refine nx ?_
   refine z2d 4 ?_
   exact rt1 []
 ·rw[if_neg he] at hZ
  subst hZ
  refine z00 Tryz.func198 rfl rfl rfl rfl rfl (fun E hn hb=>?_)
  repeat refine nx ?_
  exact rtU []
theorem zhU {l:List Int} {p:Nat} (h:¬ (z2I l p).2.2=0):(z2I l p).1= []∧(z2I l p).2.1=p:=by
 rw[z7F] at h ⊢
 unfold z0M at h ⊢
 by_cases h2:(z5E l p).2.2=0
 ·rw[if_pos h2] at h; exact absurd h2 h
 ·rw[if_neg h2]; exact⟨rfl,rfl⟩
theorem zdu (b:List Int) (hl:b.length≤12000000) (hw:WfB b):Ct Tryz.prog 172 [B8 b] [] (.tup [nmV (z3v b).1,lv (.int .i64 (z3v b).2)]) [] []:=by
 have h:=zeE b 0 (Nat.zero_le _) hl hw
 have hle:=zdP b 0 (Nat.zero_le _)
 have hne:= @zhU b 0
 unfold z3v
 generalize z2I b 0=R at*
 obtain⟨x,q,e⟩:=R
 dsimp only at*
 by_cases he:e=0
 ·subst he
  rw[if_pos rfl]
  by_cases hlt:q<b.length
  ·rw[if_pos hlt]
   refine z00 Tryz.func172 rfl rfl rfl rfl rfl (fun E hn hb=>?_)
   repeat refine nx ?_
   exact rtU []
  ·rw[if_neg hlt]
   refine z00 Tryz.func172 rfl rfl rfl rfl rfl (fun E hn hb=>?_)
   repeat refine nx ?_
   exact rt1 []
 ·obtain⟨rfl,rfl⟩:=hne he
  rw[if_neg he]
  refine z00 Tryz.func172 rfl rfl rfl rfl rfl (fun E hn hb=>?_)
  repeat refine nx ?_
  exact rt1 []
theorem zbY (k:Int):Ct Tryz.prog 195 [lv (.int .i64 k)] [] (lv (.bool (z1n k))) [] []:=by
 refine z00 Tryz.func195 rfl rfl rfl rfl rfl (fun E hn hb=>?_)
 repeat refine nx ?_
 refine rt2 [] (congrArg (fun x=>lv (.bool x)) ?_) trivial
 have hb:∀ x:Int,(k==x)=decide (k=x):=fun x=>by rw[Bool.eq_iff_iff]; simp
 unfold z1n
 simp only[hb]
 generalize decide (k=0)=A
 generalize decide (k=3)=B
 generalize decide (k=4)=C
 cases A<;>cases B<;>cases C<;>rfl
theorem zaV (k:Int):Ct Tryz.prog 171 [lv (.int .i64 k)] [] (lv (.bool (z1n k))) [] []:=by
 refine z00 Tryz.func171 rfl rfl rfl rfl rfl (fun E hn hb=>?_)
 repeat refine nx ?_
 refine rt2 [] (congrArg (fun x=>lv (.bool x)) ?_) trivial
 have hb:∀ x:Int,(k==x)=decide (k=x):=fun x=>by rw[Bool.eq_iff_iff]; simp
 unfold z1n
 simp only[hb]
 generalize decide (k=0)=A
 generalize decide (k=3)=B
 generalize decide (k=4)=C
 cases A<;>cases B<;>cases C<;>rfl
theorem zoI (x:Int):Ct Tryz.prog 226 [lv (.int .u8 x)] [] (lv (.bool (decide (127<x)))) [] []:=by
 refine z00 Tryz.func226 rfl rfl rfl rfl rfl (fun E hn hb=>?_)
 repeat refine nx ?_
 exact rt1 []
def z5F:List Int→Nat→Int
 | [],_=> -1
 | x::l,n=>if 127<x then n else z5F l (n+1)
theorem zbZ:∀(l:List Int) (n:Nat),(0≤z5F l n)↔¬ (l.all fun x=>decide (x≤127))=true
 | [],_=>by simp[z5F]
 | x::l,n=>by
   have ih:=zbZ l (n+1)
   rw[z5F,List.all_cons]
   by_cases h:127<x
   ·rw[if_pos h,decide_eq_false (by omega)]
    simp
   ·rw[if_neg h,decide_eq_true (by omega),Bool.true_and]
    exact ih
theorem zeF {l:List Int} {i:Nat} (h:i<l.length):l.drop i=l.getD i 0::l.drop (i+1):=by
 rw[List.getD_eq_getElem?_getD,List.getElem?_eq_getElem h]
 exact List.drop_eq_getElem_cons h
set_option maxHeartbeats 4000000 in
theorem zkf (b:List Int) (hl:b.length≤16000000):Ct Tryz.prog 237 [B8 b,.c (.fn (.func 226) [] [])] [] (lv (.int .i64 (z5F b 0))) [] []:=by
 refine z00 Tryz.func237 rfl rfl rfl rfl rfl (fun E hn hb=>?_)
 repeat refine nx ?_
 refine z09 (St.le_of (l:= [(0,B8 b),(1,.c (.fn (.func 226) [] [])),(7,lv (.int .i64 (b.length:Int))),(8,lv (.int .i64 ((0:Nat):Int)))]) (h:= []) (by refine⟨?_,?_⟩<;>(repeat' (first | exact trivial | exact rfl | refine⟨?_,?_⟩))<;>first | exact rfl |(simp; done) | skip)) ?_
 refine z0h (ι:= {i:Nat//i≤b.length∧z5F (b.drop i) i=z5F b 0}) (fun i=>St.of [(0,B8 b),(1,.c (.fn (.func 226) [] [])),(7,lv (.int .i64 (b.length:Int))),(8,lv (.int .i64 (i.1:Int)))] []) (fun i=>b.length -i.1) (fun i=>?_) ⟨0,Nat.zero_le _,rfl⟩
 obtain⟨i,hi,hx⟩:=i
 dsimp only
 by_cases hi2:i<b.length
 ·have hq:b.getD (i:Int).toNat 0=b.getD i 0:=rfl
  rw[zeF hi2,z5F] at hx
  have hc:=zoI (b.getD i 0)
  generalize hX:b.getD i 0=X at*
  by_cases h:127<X
  ·rw[if_pos h] at hx
   rw[decide_eq_true h] at hc
   repeat (first | refine nx ?_ | rw[hq])
   rw[hx]
   exact rt1 []
  ·rw[if_neg h] at hx
   rw[decide_eq_false h] at hc
   repeat (first | refine nx ?_ | rw[hq])
   refine z07 ⟨i+1,hi2,hx⟩ (by dsimp only; omega) (St.le_of ⟨⟨rfl,rfl,rfl,rfl⟩,trivial⟩)
 ·obtain rfl:i=b.length:=by omega
  rw[List.drop_length,z5F] at hx
  rw[←hx]
  repeat refine nx ?_
  exact rt1 []
theorem zhV (b:List Int) (hl:b.length≤16000000):Ct Tryz.prog 209 [B8 b] [] (lv (.bool (z3x b))) [] []:=by
 have hi:=zkf b hl
 have hc:Ct Tryz.prog 225 [B8 b,.c (.fn (.func 226) [] [])] [] (lv (.bool (decide (0≤z5F b 0)))) [] []:=by
  refine z00 Tryz.func225 rfl rfl rfl rfl rfl (fun E hn hb=>?_)
  repeat refine nx ?_
  exact rt1 []
 have ha:=zbZ b 0
 unfold z3x
 generalize z5F b 0=I at*
 refine z00 Tryz.func209 rfl rfl rfl rfl rfl (fun E hn hb=>?_)
 repeat refine nx ?_
 refine rt2 [] (congrArg (fun x=>lv (.bool x)) ?_) trivial
 by_cases h0:b.length=0
 ·simp[h0]
 ·have:0<b.length:=by omega
  by_cases hI:0≤I
  ·have:=ha.1 hI
   simp only[Bool.not_eq_true] at this
   rw[this]
   simp[hI]
  ·have h2:(b.all fun x=>decide (x≤127))=true:=by
    exact Decidable.byContradiction fun h=>hI (ha.2 h)
   rw[h2,decide_eq_true this,decide_eq_true (by omega:(0:Int)<b.length),decide_eq_false hI]
   rfl
theorem zeG (b:List Int) (hl:b.length≤12000000) (hw:WfB b):Ct Tryz.prog 211 [B8 b] [] (lv (.bool (z4v b))) [] []:=by
 have hcn:=z2f b (by omega)
 have hwh:=zbk b 0 (Nat.zero_le _) hl hw
 unfold z4v
 generalize z12 b 0=W at*
 obtain⟨rs,e⟩:=W
 dsimp only at*
 by_cases he:e=0
 ·subst he
  rw[if_pos rfl] at hwh
  refine z00 Tryz.func211 rfl rfl rfl rfl rfl (fun E hn hb=>?_)
  repeat refine nx ?_
  refine rt2 [] (congrArg (fun x=>lv (.bool x)) ?_) trivial
  simp
 ·rw[if_neg he] at hwh
  rw[decide_eq_false he]
  refine z00 Tryz.func211 rfl rfl rfl rfl rfl (fun E hn hb=>?_)
  repeat refine nx ?_
  refine rt2 [] (congrArg (fun x=>lv (.bool x)) ?_) trivial
  simp[he]
theorem zeH {k:Int} (b:List Int) (h0:k≠0) (h1:k≠1) (h2:k≠2) (h3:k≠3) (h5:k≠5) (h6:k≠6) (h7:k≠7) (h8:k≠8):z4g k b=false:=by
 unfold z4g
 rw[if_neg (by omega),if_neg h7,if_neg h8,if_neg (by omega)]
set_option maxHeartbeats 4000000 in
theorem zbK (k:Int) (b:List Int) (hl:b.length≤12000000) (hw:WfB b):Ct Tryz.prog 180 [lv (.int .i64 k),B8 b] [] (lv (.bool (z4g k b))) [] []:=by
 have hp:=zhV b (by omega)
 have ho:=zb9 b (by omega) hw
 have hh:=zeG b hl hw
 by_cases h1:k=1
 ·subst h1
  show Ct _ _ _ _ (lv (.bool (z3x b))) _ _
  refine z00 Tryz.func180 rfl rfl rfl rfl rfl (fun E hn hb=>?_)
  repeat refine nx ?_
  exact rt1 []
 by_cases h2:k=2
 ·subst h2
  show Ct _ _ _ _ (lv (.bool (z3x b))) _ _
  refine z00 Tryz.func180 rfl rfl rfl rfl rfl (fun E hn hb=>?_)
  repeat refine nx ?_
  exact rt1 []
 by_cases h6:k=6
 ·subst h6
  show Ct _ _ _ _ (lv (.bool (z3x b))) _ _
  refine z00 Tryz.func180 rfl rfl rfl rfl rfl (fun E hn hb=>?_)
  repeat refine nx ?_
  exact rt1 []
 by_cases h7:k=7
 ·subst h7
  show Ct _ _ _ _ (lv (.bool (decide (b.length=4)||decide (b.length=16)))) _ _
  refine z00 Tryz.func180 rfl rfl rfl rfl rfl (fun E hn hb=>?_)
  repeat refine nx ?_
  refine rt2 [] (congrArg (fun x=>lv (.bool x)) ?_) trivial
  by_cases h4:b.length=4
  ·simp[h4]
  ·by_cases h16:b.length=16
   ·simp[h16]
   ·rw[show((b.length:Int)==4)=false by rw[beq_eq_false_iff_ne]; omega,show((b.length:Int)==16)=false by rw[beq_eq_false_iff_ne]; omega]
    simp[h4,h16]
 by_cases h8:k=8
 ·subst h8
  show Ct _ _ _ _ (lv (.bool (decide ((z2w b).2=0)))) _ _
  refine z00 Tryz.func180 rfl rfl rfl rfl rfl (fun E hn hb=>?_)
  repeat refine nx ?_
  exact rt1 []
 by_cases h0:k=0
 ·subst h0
  show Ct _ _ _ _ (lv (.bool (z4v b))) _ _
  refine z00 Tryz.func180 rfl rfl rfl rfl rfl (fun E hn hb=>?_)
  repeat refine nx ?_
  exact rt1 []
 by_cases h3:k=3
 ·subst h3
  show Ct _ _ _ _ (lv (.bool (z4v b))) _ _
  refine z00 Tryz.func180 rfl rfl rfl rfl rfl (fun E hn hb=>?_)
  repeat refine nx ?_
  exact rt1 []
 by_cases h5:k=5
 ·subst h5
  show Ct _ _ _ _ (lv (.bool (z4v b))) _ _
  refine z00 Tryz.func180 rfl rfl rfl rfl rfl (fun E hn hb=>?_)
  repeat refine nx ?_
  exact rt1 []
 rw[zeH b h0 h1 h2 h3 h5 h6 h7 h8]
 refine z00 Tryz.func180 rfl rfl rfl rfl rfl (fun E hn hb=>?_)
 repeat refine nx ?_
 exact rt1 []
abbrev gnL (g:GnT):List Leaf:= [.v (.int .i64 g.1),.ints .u8 g.2.1,nmL g.2.2]
abbrev gnA (g:GnT):Av:= .agg [.lf (.v (.int .i64 g.1)),.lf (.ints .u8 g.2.1),.lf (nmL g.2.2)]
structure GnB (g:GnT):Prop where
 l:g.2.1.length≤12000000
 w:WfB g.2.1
 n:NmB g.2.2
theorem z5a (g:GnT) (h:GnB g):Ct Tryz.prog 137 [gnA g] [] (lv (.bool (z0F g))) [] []:=by
 obtain⟨k,b,n⟩:=g
 obtain⟨hl,hw,hn1⟩:=h
 dsimp only at hl hw hn1
 have hr:=z7h n hn1
 have hc:=zbK k b hl hw
 have hml:(nmR n).length=n.length:=List.length_map ..
 unfold z0F
 dsimp only
 by_cases hk:k=4
 ·subst hk
  rw[if_pos rfl]
  generalize z15 n=N at*
  refine z00 Tryz.func137 rfl rfl rfl rfl rfl (fun E hn hb=>?_)
  repeat refine nx ?_
  refine rt2 [] (congrArg (fun x=>lv (.bool x)) ?_) trivial
  by_cases h0:b.length=0
  ·simp[h0]
  ·rw[show((b.length:Int)==0)=false by rw[beq_eq_false_iff_ne]; omega]
   simp[h0]
 ·rw[if_neg hk]
  generalize z4g k b=C at*
  refine z00 Tryz.func137 rfl rfl rfl rfl rfl (fun E hn hb=>?_)
  repeat refine nx ?_
  refine rt2 [] (congrArg (fun x=>lv (.bool x)) ?_) trivial
  rw[hml]
  by_cases h0:n.length=0
  ·simp[h0]
  ·rw[show((n.length:Int)==0)=false by rw[beq_eq_false_iff_ne]; omega]
   simp[h0]
end Go.Proofs.YtaagjnlkinojcaaGreat

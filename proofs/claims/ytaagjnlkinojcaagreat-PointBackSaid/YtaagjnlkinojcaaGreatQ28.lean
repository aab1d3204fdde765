/-
  Chapter 16: the document's places and points that may be. The conditions: rows that a machine can hold.
-/
import Derived.Test.YtaagjnlkinojcaaGreatQ24
namespace Go.Proofs.YtaagjnlkinojcaaGreat
set_option linter.unusedSimpArgs false
set_option linter.unusedVariables false
open Go.Sx
set_option maxRecDepth 10000
theorem z48 {α:Type} (z:α) (l:List Int) (p:Nat) (t:z0h) {f g:List Int→α×Nat×Int} (h:∀ x,(f x).2.2=(g x).2.2∧((g x).2.2=0→f x=g x)):z0i z l p t f=z0i z l p t g:=by
 unfold z0i
 dsimp only
 split
 ·split
  ·obtain⟨h1,h2⟩:=h (z0r l p t).1
   by_cases h0:(g (z0r l p t).1).2.2=0
   ·rw[h2 h0]
   ·rw[if_neg h0,if_neg (by rw[h1]; exact h0),h1]
  ·rfl
 ·rfl
theorem z8Y (x:List Int):(z1D x).2.2=(z16 x).2.2∧((z16 x).2.2=0→z1D x=z16 x):=by
 refine⟨?_,z9n⟩
 by_cases h:(z16 x).2.2=0
 ·rw[z9n h]
 ·rw[zdn h]
theorem z7j (x:List Int):(z2t x).2.2=(z3t x).2.2∧((z3t x).2.2=0→z2t x=z3t x):=by
 unfold z2t z3t
 rw[z48 [] x 0 (2,0,true) z8Y]
 dsimp only
 by_cases h1:(z0d x 0).2.2=0
 ·rw[if_pos h1,if_pos h1]
  by_cases h2:isH x 0 (2,0,true)=true
  ·rw[if_pos h2,if_pos h2]
   by_cases h3:(z0i [] x 0 (2,0,true) z16).2.2=0
   ·rw[if_pos h3,h3]
    exact⟨rfl,fun _=>rfl⟩
   ·rw[if_neg h3]
    exact⟨rfl,fun h=>absurd h h3⟩
  ·rw[if_neg h2,if_neg h2]
   by_cases h4:isH x 0 (2,1,true)=true
   ·rw[if_pos h4,if_pos h4]
    by_cases h3:(z0i [] x 0 (2,1,true) z3s).2.2=0
    ·rw[if_pos h3,h3]
     exact⟨rfl,fun _=>rfl⟩
    ·rw[if_neg h3]
     exact⟨rfl,fun h=>absurd h h3⟩
   ·rw[if_neg h4,if_neg h4]
    exact⟨rfl,fun h=>absurd h (by decide)⟩
 ·rw[if_neg h1,if_neg h1]
  exact⟨rfl,fun h=>absurd h h1⟩
theorem zl1 (x:List Int):z42 x=(if(z3S x).2.2=0 then(if(z3S x).2.1<x.length then((none,[],[]),7) else if z0A (z3S x).1=true then((z3S x).1,0) else((none,[],[]),6)) else((none,[],[]),(z3S x).2.2)):=by
 unfold z42 z3S z0O
 rw[if_pos rfl,z48 none x 0 (2,0,true) z7j]
 dsimp only
 generalize z0i none x 0 (2,0,true) z3t=A
 obtain⟨a,pa,ea⟩:=A
 dsimp only
 by_cases h1:ea=0
 ·subst h1
  rw[if_pos rfl]
  simp only[if_true]
  generalize z0i [] x pa (2,1,false) z1p=B
  obtain⟨b,pb,eb⟩:=B
  dsimp only
  by_cases h2:eb=0
  ·subst h2
   simp only[if_true]
   rw[z48 [] x pb (2,2,true) z8Y]
  ·simp only[if_neg h2]
 ·simp only[if_neg h1]
theorem z61:z3q (.agg [.lf (.v (.pointer none)),z73,z73]) (ptA (none,[],[])):=⟨.inl rfl,.inr ⟨rfl,.inl ⟨_,rfl⟩⟩,.inr ⟨rfl,.inr ⟨_,rfl⟩⟩,trivial⟩
set_option maxHeartbeats 4000000 in
theorem zl2 (l:List Int) (p:Nat) (hp:p≤l.length) (hl:l.length≤11760000) (hw:WfB l):Ct Tryz.prog 49 [.c (.ptr 0 0),.c (.fn (.func 50) [] []),.c (.fn (.func 41) [] [])] [z04 l p] (.tup [ptA (z1t l p).1,lv (.int .i64 (z1t l p).2.2)]) [z04 l (z1t l p).2.1] []:=by
 have hop:=z26 l p (ofT 16) hp (by omega) hw
 have hoe:=z2s l p (ofT 16) hp (by omega) hw
 have hmem:=z0H l p (ofT 16)
 have hof:=z1d 16
 have hat:=z1z l p
 have hle0:=z24 l p (ofT 16) hp
 unfold z1t
 dsimp only
 generalize z0r l p (ofT 16)=X at*
 obtain⟨x,q,e⟩:=X
 dsimp only at*
 by_cases he:e=0
 ·subst he
  have hop:=hop rfl
  rw[if_pos rfl]
  have hbk:=z1L l q p hle0.1 (by omega)
  have hwx:WfB x:=fun z hz=>hw z (hmem.2 z hz)
  have hr:=zhI x (by omega) hwx
  have hB:=z6j (z3S x).1 (zq3 hwx (by omega))
  have hle:=zlj x
  rw[zl1]
  have hlf:=z0S x (z3S x).2.1 hle (by omega)
  generalize z3S x=R at*
  obtain⟨⟨w,r,g⟩,s,f⟩:=R
  dsimp only at*
  generalize z0A (w,r,g)=K at*
  rcases w with _ |⟨w1,w2⟩
  ·change Ct _ _ _ _ (.agg [.lf (.v (.pointer none)),.lf (.ints .i64 r),.lf (.recs 3 (gnR g))]) _ _ at hr
   change Ct _ _ [.agg [.lf (.v (.pointer none)),.lf (.ints .i64 r),.lf (.recs 3 (gnR g))]] _ _ _ _ at hB
   by_cases hf:f=0
   ·subst hf
    rw[if_pos rfl]
    by_cases hlt:s<x.length
    ·rw[if_pos hlt]
     refine z00 Tryz.func49 rfl rfl rfl rfl rfl (fun E hn hb=>?_)
     repeat refine nx ?_
     refine rtU [] (hu:=?_)
     exact⟨z61,.inl rfl,trivial⟩
    ·rw[if_neg hlt]
     cases K with
     | true=>
       refine z00 Tryz.func49 rfl rfl rfl rfl rfl (fun E hn hb=>?_)
       repeat refine nx ?_
       exact rt1 []
     | false=>
       refine z00 Tryz.func49 rfl rfl rfl rfl rfl (fun E hn hb=>?_)
       repeat refine nx ?_
       refine rtU [] (hu:=?_)
       exact⟨z61,.inl rfl,trivial⟩
   ·rw[if_neg hf,if_neg hf]
    refine z00 Tryz.func49 rfl rfl rfl rfl rfl (fun E hn hb=>?_)
    repeat refine nx ?_
    refine rtU [] (hu:=?_)
    exact⟨z61,.inl rfl,trivial⟩
  ·change Ct _ _ _ _ (.agg [.lf (.obj [.recs 3 (gnR w1),z1s w2]),.lf (.ints .i64 r),.lf (.recs 3 (gnR g))]) _ _ at hr
   change Ct _ _ [.agg [.lf (.obj [.recs 3 (gnR w1),z1s w2]),.lf (.ints .i64 r),.lf (.recs 3 (gnR g))]] _ _ _ _ at hB
   by_cases hf:f=0
   ·subst hf
    rw[if_pos rfl]
    by_cases hlt:s<x.length
    ·rw[if_pos hlt]
     refine z00 Tryz.func49 rfl rfl rfl rfl rfl (fun E hn hb=>?_)
     repeat refine nx ?_
     refine rtU [] (hu:=?_)
     exact⟨z61,.inl rfl,trivial⟩
    ·rw[if_neg hlt]
     cases K with
     | true=>
       refine z00 Tryz.func49 rfl rfl rfl rfl rfl (fun E hn hb=>?_)
       repeat refine nx ?_
       exact rt1 []
     | false=>
       refine z00 Tryz.func49 rfl rfl rfl rfl rfl (fun E hn hb=>?_)
       repeat refine nx ?_
       refine rtU [] (hu:=?_)
       exact⟨z61,.inl rfl,trivial⟩
   ·rw[if_neg hf,if_neg hf]
    refine z00 Tryz.func49 rfl rfl rfl rfl rfl (fun E hn hb=>?_)
    repeat refine nx ?_
    refine rtU [] (hu:=?_)
    exact⟨z61,.inl rfl,trivial⟩
 ·have hoe:=hoe he
  rw[if_neg he]
  refine z00 Tryz.func49 rfl rfl rfl rfl rfl (fun E hn hb=>?_)
  repeat refine nx ?_
  refine rtU [] (hu:=?_)
  exact⟨z61,.inl rfl,trivial⟩
abbrev ptL (p:PtT):List Leaf:= [wpL p.1,.ints .i64 p.2.1,.recs 3 (gnR p.2.2)]
abbrev ptR (l:List PtT):List (List Leaf):=l.map ptL
abbrev ptV (l:List PtT):Av:= .c (.lf (.recs 3 (ptR l)))
theorem z7k (l:List PtT) (g:PtT):ptR (l++ [g])=ptR l++ [ptL g]:=List.map_append
theorem zjd {x:List Int} {p q:Nat} {g:PtT} (hw:WfB x) (hp:p≤x.length) (h:z1t x p=(g,q,0)):p<q:=by
 unfold z1t at h
 dsimp only at h
 have hle:=z24 x p (ofT 16) hp
 have hb:= @z2Y x (z0r x p (ofT 16)).1 p (z0r x p (ofT 16)).2.1 (ofT 16) hw
 generalize z0r x p (ofT 16)=X at*
 obtain⟨y,r,e⟩:=X
 dsimp only at*
 by_cases he:e=0
 ·subst he
  rw[if_pos rfl] at h
  by_cases h1:(z42 y).2=0
  ·rw[if_pos h1] at h
   simp only[Prod.mk.injEq] at h
   obtain⟨_,rfl,_⟩:=h
   obtain⟨_,h2⟩:=hb rfl
   have hpos:0<(z05 (ofT 16) y).length:=z1n _ _
   have hlen:=congrArg List.length h2
   rw[List.length_append,List.length_drop,List.length_drop] at hlen
   omega
  ·rw[if_neg h1] at h
   simp only[Prod.mk.injEq] at h
   exact absurd h.2.2 h1
 ·rw[if_neg he] at h
  simp only[Prod.mk.injEq] at h
  exact absurd h.2.2 he
def z8G (x:List Int):Nat→Nat→List PtT→Nat
 | 0,p,_=>p
 | f+1,p,acc=>if p<x.length then(if acc.length=10000 then p else let r:=z1t x p; if r.2.2=0 then z8G x f r.2.1 (acc++ [r.1]) else r.2.1) else p
theorem z62 (l:List Int) (p:Nat) (hp:p≤l.length) (hl:l.length≤11760000) (hw:WfB l):Ct Tryz.prog 14 [.c (.ptr 0 0)] [z04 l p] (.tup [ptA (z1t l p).1,lv (.int .i64 (z1t l p).2.2)]) [z04 l (z1t l p).2.1] []:=by
 have h:=zl2 l p hp hl hw
 generalize z1t l p=R at*
 obtain⟨⟨w,r,g⟩,s,f⟩:=R
 dsimp only at*
 rcases w with _ |⟨w1,w2⟩
 ·change Ct _ _ _ _ (.tup [.agg [.lf (.v (.pointer none)),.lf (.ints .i64 r),.lf (.recs 3 (gnR g))],lv (.int .i64 f)]) _ _ at h
  show Ct _ _ _ _ (.tup [.agg [.lf (.v (.pointer none)),.lf (.ints .i64 r),.lf (.recs 3 (gnR g))],lv (.int .i64 f)]) _ _
  refine z00 Tryz.func14 rfl rfl rfl rfl rfl (fun E hn hb=>?_)
  repeat refine nx ?_
  exact rt1 []
 ·change Ct _ _ _ _ (.tup [.agg [.lf (.obj [.recs 3 (gnR w1),z1s w2]),.lf (.ints .i64 r),.lf (.recs 3 (gnR g))],lv (.int .i64 f)]) _ _ at h
  show Ct _ _ _ _ (.tup [.agg [.lf (.obj [.recs 3 (gnR w1),z1s w2]),.lf (.ints .i64 r),.lf (.recs 3 (gnR g))],lv (.int .i64 f)]) _ _
  refine z00 Tryz.func14 rfl rfl rfl rfl rfl (fun E hn hb=>?_)
  repeat refine nx ?_
  exact rt1 []
abbrev zje (x:List PtT) (e:Int):Av:= .tup [ptV x,lv (.int .i64 e)]
set_option maxHeartbeats 8000000 in
theorem zhd (l:List Int) (hl:l.length≤11760000) (hw:WfB l) (h0:¬ l= []):Ct Tryz.prog 64 [.c (.ptr 0 0)] [z04 l 0] (zje (z2q l (l.length+1) 0 []).1 (z2q l (l.length+1) 0 []).2) [z04 l (z8G l (l.length+1) 0 [])] []:=by
 have hlf0:=z0S l 0 (Nat.zero_le _) (by omega)
 obtain⟨R,hR⟩:∃ R,z2q l (l.length+1) 0 []=R:=⟨_,rfl⟩
 obtain⟨Z,hZ⟩:∃ Z,z8G l (l.length+1) 0 []=Z:=⟨_,rfl⟩
 rw[hR,hZ]
 have hpos:0<l.length:=List.length_pos_iff.2 h0
 refine z00 Tryz.func64 rfl rfl rfl rfl rfl (fun E hn hb=>?_)
 repeat refine nx ?_
 refine z10 4 900 3 (.recs 3 []) rfl rfl (.inr (.inr ⟨_,rfl⟩)) ?_
 refine z09 (St.le_of (l:= [(0,.c (.ptr 0 0)),(4,.c (.own 900 3 0 (ptR []).length))]) (h:= [(0,z04 l 0),(900,.row (.recs 3 (ptR [])))]) (by refine⟨?_,?_⟩<;>(repeat' (first | exact trivial | exact rfl | refine⟨?_,?_⟩))<;>first | exact rfl |(simp; done) | skip)) ?_
 refine z0k (ι:= {s:Nat×Nat×List PtT//s.2.1≤l.length∧l.length -s.2.1<s.1∧s.2.2.length≤10000∧z2q l s.1 s.2.1 s.2.2=R∧z8G l s.1 s.2.1 s.2.2=Z}) (fun s=>St.of [(0,.c (.ptr 0 0)),(4,.c (.own 900 3 0 (ptR s.1.2.2).length))] [(0,z04 l s.1.2.1),(900,.row (.recs 3 (ptR s.1.2.2)))]) (fun s=>s.1.1) (fun s=>?_) ⟨(l.length+1,0,[]),Nat.zero_le _,by dsimp only; omega,by simp,hR,hZ⟩
 obtain⟨⟨f,pp,acc⟩,hpp,hf,h16,hx,hz⟩:=s
 dsimp only at hpp hf h16 hx hz ⊢
 obtain⟨f,rfl⟩:∃ m,f=m+1:=⟨f -1,by omega⟩
 have hml:(ptR acc).length=acc.length:=List.length_map ..
 have hlf:=z0S l pp hpp (by omega)
 rw[z2q] at hx
 rw[z8G] at hz
 by_cases hlt:pp<l.length
 ·rw[if_pos hlt] at hx hz
  by_cases h6:acc.length=10000
  ·rw[if_pos h6] at hx hz
   subst hx hz
   repeat refine nx ?_
   exact rtU []
  ·rw[if_neg h6] at hx hz
   have hrd:=z62 l pp hpp hl hw
   have hle:=z6K l pp hpp
   have hps:= @zjd l pp (z1t l pp).2.1 (z1t l pp).1 hw hpp
   generalize z1t l pp=S at*
   obtain⟨g,q1,e1⟩:=S
   dsimp only at hrd hx hle hps hz
   by_cases he1:e1=0
   ·subst he1
    rw[if_pos rfl] at hx hz
    have hps:=hps rfl
    obtain⟨w,r,g⟩:=g
    rcases w with _ |⟨w1,w2⟩
    ·change Ct _ _ _ _ (.tup [.agg [.lf (.v (.pointer none)),.lf (.ints .i64 r),.lf (.recs 3 (gnR g))],_]) _ _ at hrd
     repeat refine nx ?_
     refine z08 ⟨(f,q1,acc++ [(none,r,g)]),hle.2,by dsimp only; omega,by simp; omega,hx,hz⟩ (by dsimp only; omega) (St.le_of ⟨⟨rfl,?_⟩,⟨rfl,?_⟩⟩)
     ·dsimp only; rw[z7k]; rfl
     ·dsimp only; rw[z7k]; rfl
    ·change Ct _ _ _ _ (.tup [.agg [.lf (.obj [.recs 3 (gnR w1),z1s w2]),.lf (.ints .i64 r),.lf (.recs 3 (gnR g))],_]) _ _ at hrd
     repeat refine nx ?_
     refine z08 ⟨(f,q1,acc++ [(some (w1,w2),r,g)]),hle.2,by dsimp only; omega,by simp; omega,hx,hz⟩ (by dsimp only; omega) (St.le_of ⟨⟨rfl,?_⟩,⟨rfl,?_⟩⟩)
     ·dsimp only; rw[z7k]; rfl
     ·dsimp only; rw[z7k]; rfl
   ·rw[if_neg he1] at hx hz
    subst hx hz
    obtain⟨w,r,g⟩:=g
    rcases w with _ |⟨w1,w2⟩
    ·change Ct _ _ _ _ (.tup [.agg [.lf (.v (.pointer none)),.lf (.ints .i64 r),.lf (.recs 3 (gnR g))],_]) _ _ at hrd
     repeat refine nx ?_
     exact rtU []
    ·change Ct _ _ _ _ (.tup [.agg [.lf (.obj [.recs 3 (gnR w1),z1s w2]),.lf (.ints .i64 r),.lf (.recs 3 (gnR g))],_]) _ _ at hrd
     repeat refine nx ?_
     exact rtU []
 ·rw[if_neg hlt] at hx hz
  subst hx hz
  repeat refine nx ?_
  refine z31 2 ?_
  exact rt1 []
theorem z7D (l:List Int) (p:Nat) (hp:p≤l.length) (hl:l.length≤11760000) (hw:WfB l):Ct Tryz.prog 16 [.c (.ptr 0 0)] [z04 l p] (zje (z2P l p).1 (z2P l p).2.2) [z04 l (z2P l p).2.1] []:=by
 have hop:=z26 l p (ofT 16) hp (by omega) hw
 have hoe:=z2s l p (ofT 16) hp (by omega) hw
 have hmem:=z0H l p (ofT 16)
 have hof:=z1d 16
 have hat:=z1z l p
 have hle0:=z24 l p (ofT 16) hp
 unfold z2P
 dsimp only
 generalize z0r l p (ofT 16)=X at*
 obtain⟨x,q,e⟩:=X
 dsimp only at*
 by_cases he:e=0
 ·subst he
  have hop:=hop rfl
  rw[if_pos rfl]
  have hbk:=z1L l q p hle0.1 (by omega)
  by_cases h0:x= []
  ·subst h0
   have hk:Ct Tryz.prog 64 [.c (.ptr 0 0)] [z04 [] 0] (zje [] 6) [z04 [] 0] []:=by
    have hlf0:=z0S [] 0 (Nat.zero_le _) (by decide)
    refine z00 Tryz.func64 rfl rfl rfl rfl rfl (fun E hn hb=>?_)
    repeat refine nx ?_
    exact rtU []
   rw[if_pos (show([]:List Int).length=0 from rfl)]
   refine z00 Tryz.func16 rfl rfl rfl rfl rfl (fun E hn hb=>?_)
   repeat refine nx ?_
   exact rtU []
  ·have hpos:0<x.length:=List.length_pos_iff.2 h0
   rw[if_neg (by omega)]
   have hk:=zhd x (by omega) (fun z hz=>hw z (hmem.2 z hz)) h0
   generalize z8G x (x.length+1) 0 []=Z at*
   generalize z2q x (x.length+1) 0 []=R at*
   obtain⟨r,f⟩:=R
   dsimp only at*
   by_cases hf:f=0
   ·subst hf
    rw[if_pos rfl]
    refine z00 Tryz.func16 rfl rfl rfl rfl rfl (fun E hn hb=>?_)
    repeat refine nx ?_
    exact rt1 []
   ·rw[if_neg hf]
    refine z00 Tryz.func16 rfl rfl rfl rfl rfl (fun E hn hb=>?_)
    repeat refine nx ?_
    exact rtU []
 ·have hoe:=hoe he
  rw[if_neg he]
  refine z00 Tryz.func16 rfl rfl rfl rfl rfl (fun E hn hb=>?_)
  repeat refine nx ?_
  exact rtU []
theorem zhe {l:List Int} {i:Nat} (a:Int) (h:i<l.length):z2K a (l.drop i)=(decide (a<l.getD i 0)&&decide (l.getD i 0≤8)&&z2K (l.getD i 0) (l.drop (i+1))):=by
 rw[List.drop_eq_getElem_cons h,z2K,List.getD_eq_getElem?_getD,List.getElem?_eq_getElem h]
 rfl
set_option maxHeartbeats 4000000 in
theorem zjf (l:List Int) (hl:l.length≤16000000):Ct Tryz.prog 87 [I64 l] [] (lv (.bool (z0T l))) [] []:=by
 refine z00 Tryz.func87 rfl rfl rfl rfl rfl (fun E hn hb=>?_)
 repeat refine nx ?_
 refine z09 (St.le_of (l:= [(0,I64 l),(3,lv (.int .i64 ((0:Nat):Int)))]) (h:= []) (by refine⟨?_,?_⟩<;>(repeat' (first | exact trivial | exact rfl | refine⟨?_,?_⟩))<;>first | exact rfl |(simp; done) | skip)) ?_
 refine z0k (ι:= {i:Nat//i≤l.length∧(∃ a:Int,(if i=0 then a= -1 else a=l.getD (i -1) 0)∧ -1≤a∧z2K a (l.drop i)=z0T l)}) (fun i=>St.of [(0,I64 l),(3,lv (.int .i64 (i.1:Int)))] []) (fun i=>l.length -i.1) (fun i=>?_) ⟨0,Nat.zero_le _,-1,rfl,by decide,by rw[List.drop_zero]; rfl⟩
 obtain⟨i,hi,a,ha,ha1,hr⟩:=i
 dsimp only
 by_cases hi2:i<l.length
 ·have hq:l.getD (i:Int).toNat 0=l.getD i 0:=rfl
  rw[zhe a hi2] at hr
  generalize hx:l.getD i 0=x at*
  by_cases h1:x<0
  ·rw[decide_eq_false (by omega:¬ a<x),Bool.false_and,Bool.false_and] at hr
   rw[←hr]
   repeat (first | refine nx ?_ | rw[hq])
   exact rt1 []
  ·by_cases h2:8<x
   ·rw[decide_eq_false (by omega:¬ x≤8),Bool.and_false,Bool.false_and] at hr
    rw[←hr]
    repeat (first | refine nx ?_ | rw[hq])
    exact rt1 []
   ·by_cases h0:i=0
    ·subst h0
     rw[if_pos rfl] at ha
     subst ha
     rw[decide_eq_true (by omega: -1<x),decide_eq_true (by omega:x≤8),Bool.true_and,Bool.true_and] at hr
     repeat (first | refine nx ?_ | rw[hq])
     refine z08 ⟨1,hi2,x,by rw[if_neg (by decide)]; exact hx.symm,by omega,hr⟩ (by dsimp only; omega) (St.le_of ⟨⟨rfl,rfl⟩,trivial⟩)
    ·rw[if_neg h0] at ha
     have hq1:l.getD ((i:Int) -1).toNat 0=a:=by rw[ha]; congr 1; omega
     by_cases h3:x≤a
     ·rw[decide_eq_false (by omega:¬ a<x),Bool.false_and,Bool.false_and] at hr
      rw[←hr]
      repeat (first | refine nx ?_ | rw[hq] | rw[hq1])
      exact rt1 []
     ·rw[decide_eq_true (by omega:a<x),decide_eq_true (by omega:x≤8),Bool.true_and,Bool.true_and] at hr
      repeat (first | refine nx ?_ | rw[hq] | rw[hq1])
      refine z08 ⟨i+1,hi2,x,by rw[if_neg (by omega)]; exact hx.symm,by omega,hr⟩ (by dsimp only; omega) (St.le_of ⟨⟨rfl,rfl⟩,trivial⟩)
 ·obtain rfl:i=l.length:=by omega
  rw[List.drop_length] at hr
  rw[←hr]
  repeat refine nx ?_
  exact rt1 []
theorem zeo (g:List GnT) (hg:∀ x ∈ g,GnB x) (hl:g.length≤16000000):Ct Tryz.prog 99 [gnV g] [] (lv (.bool (z1g g))) [] []:=by
 have hml:(gnR g).length=g.length:=List.length_map ..
 unfold z1g
 refine z00 Tryz.func99 rfl rfl rfl rfl rfl (fun E hn hb=>?_)
 repeat refine nx ?_
 refine z09 (St.le_of (l:= [(0,gnV g),(3,lv (.int .i64 ((0:Nat):Int)))]) (h:= []) (by refine⟨?_,?_⟩<;>(repeat' (first | exact trivial | exact rfl | refine⟨?_,?_⟩))<;>first | exact rfl |(simp; done) | skip)) ?_
 refine z0k (ι:= {i:Nat//i≤g.length∧∀ j,j<i→z0G (g.getD j gn0)=true}) (fun i=>St.of [(0,gnV g),(3,lv (.int .i64 (i.1:Int)))] []) (fun i=>g.length -i.1) (fun i=>?_) ⟨0,Nat.zero_le _,fun j hj=>by omega⟩
 obtain⟨i,hi,hu⟩:=i
 dsimp only
 by_cases hi2:i<g.length
 ·have hq:g.getD (i:Int).toNat default=g.getD i gn0:=rfl
  have hbr:=hg _ (z1m (d:=gn0) hi2)
  have hw:=zfP _ hbr
  by_cases ha:z0G (g.getD i gn0)=true
  ·rw[ha] at hw
   generalize hA:g.getD i gn0=r at*
   obtain⟨k,b,n⟩:=r
   repeat (first | refine nx ?_ | rw[hq])
   refine z08 ⟨i+1,hi2,fun j hj=>by
    by_cases e:j=i
    ·subst e; rw[hA]; exact ha
    ·exact hu j (by omega)⟩ (by dsimp only; omega) (St.le_of ⟨⟨rfl,rfl⟩,trivial⟩)
  ·rw[z7K hi2 ha,Bool.and_false]
   rw[Bool.eq_false_iff.2 ha] at hw
   generalize hA:g.getD i gn0=r at*
   obtain⟨k,b,n⟩:=r
   repeat (first | refine nx ?_ | rw[hq])
   exact rt1 []
 ·obtain rfl:i=g.length:=by omega
  rw[z9E hu,Bool.and_true]
  repeat refine nx ?_
  refine rt2 [] (congrArg (fun x=>lv (.bool x)) ?_) trivial
  rw[hml,Bool.eq_iff_iff]
  simp
  try omega
abbrev rwA (t:Bool) (w:WhT):Av:= .agg [.lf (.v (.bool t)),.lf (.recs 3 (gnR w.1)),.lf (z1s w.2)]
def whD:Option WhT→WhT
 | none=>([],[])
 | some w=>w
set_option maxHeartbeats 4000000 in
theorem zhf (t:Bool) (w:WhT) (h:WhB w):Ct Tryz.prog 74 [rwA t w] [] (lv (.bool (z2b w))) [] []:=by
 obtain⟨g,s⟩:=w
 have hg:=zeo g h.g h.l
 have hs:=zcm s h.a h.s
 have hml:(gnR g).length=g.length:=List.length_map ..
 have hms:(s.map atL).length=s.length:=List.length_map ..
 unfold z2b
 dsimp only
 by_cases h0:s= []
 ·subst h0
  rw[if_neg (by decide)]
  generalize z1g g=G at*
  refine z00 Tryz.func74 rfl rfl rfl rfl rfl (fun E hn hb=>?_)
  repeat refine nx ?_
  exact rt1 []
 ·have hpos:0<s.length:=List.length_pos_iff.2 h0
  rw[if_pos hpos]
  generalize z0C s=S at*
  by_cases hg0:g= []
  ·subst hg0
   refine z00 Tryz.func74 rfl rfl rfl rfl rfl (fun E hn hb=>?_)
   repeat refine nx ?_
   refine rt2 [] (congrArg (fun x=>lv (.bool x)) ?_) trivial
   cases S<;>rfl
  ·have hgp:0<g.length:=List.length_pos_iff.2 hg0
   rw[decide_eq_false (by omega:¬ g.length=0),Bool.false_and]
   refine z00 Tryz.func74 rfl rfl rfl rfl rfl (fun E hn hb=>?_)
   repeat refine nx ?_
   refine rt2 [] (congrArg (fun x=>lv (.bool x)) ?_) trivial
   rw[show(((gnR (g,s).1).length:Int)==0)=false by rw[hml,beq_eq_false_iff_ne]; omega]
   rfl
abbrev z9h (p:PtT):Av:= .agg [.lf (.v (.bool p.1.isSome)),.lf (.recs 3 (gnR (whD p.1).1)),.lf (z1s (whD p.1).2),.lf (.ints .i64 p.2.1),.lf (.recs 3 (gnR p.2.2))]
set_option maxHeartbeats 4000000 in
theorem z7l (p:PtT) (h:PtB p):Ct Tryz.prog 42 [z9h p] [] (lv (.bool (z0A p))) [] []:=by
 obtain⟨o,r,g⟩:=p
 obtain⟨h1,h2,h3,h4⟩:=h
 dsimp only at*
 have hg:=zeo g h4 h3
 have hr:=zjf r h2
 have hml:(gnR g).length=g.length:=List.length_map ..
 unfold z0A
 dsimp only
 generalize z1g g=G at*
 generalize z0T r=R at*
 rcases o with _ | w
 ·show Ct _ _ [.agg [.lf (.v (.bool false)),.lf (.recs 3 (gnR [])),.lf (z1s []),.lf (.ints .i64 r),.lf (.recs 3 (gnR g))]] _ _ _ _
  by_cases h0:g= []
  ·subst h0
   refine z00 Tryz.func42 rfl rfl rfl rfl rfl (fun E hn hb=>?_)
   repeat (first | refine nx ?_ | refine wgF (lv (.bool false)) hn ?_)
   refine rt2 [] (congrArg (fun x=>lv (.bool x)) ?_) trivial
   first | rfl |(cases R<;>rfl) |(simp; done) |(rw[hml]; simp; omega) |(rw[show decide ((0:Int)<((gnR g).length:Int))=true by rw[decide_eq_true_iff,hml]; omega]; cases R<;>rfl)
  ·have hgp:0<g.length:=List.length_pos_iff.2 h0
   rw[decide_eq_false (by omega:¬ g.length=0),decide_eq_true hgp]
   cases G with
   | true=>
     refine z00 Tryz.func42 rfl rfl rfl rfl rfl (fun E hn hb=>?_)
     repeat (first | refine nx ?_ | refine z4L rfl rfl ?_ | refine wgF (lv (.bool false)) hn ?_)
     refine rt2 [] (congrArg (fun x=>lv (.bool x)) ?_) trivial
     first | rfl |(cases R<;>rfl) |(simp; done) |(rw[hml]; simp; omega) |(rw[show decide ((0:Int)<((gnR g).length:Int))=true by rw[decide_eq_true_iff,hml]; omega]; cases R<;>rfl)
   | false=>
     refine z00 Tryz.func42 rfl rfl rfl rfl rfl (fun E hn hb=>?_)
     repeat (first | refine nx ?_ | refine z4L rfl rfl ?_ | refine wgF (lv (.bool false)) hn ?_)
     refine rt2 [] (congrArg (fun x=>lv (.bool x)) ?_) trivial
     first | rfl |(cases R<;>rfl) |(simp; done) |(rw[hml]; simp; omega) |(rw[show decide ((0:Int)<((gnR g).length:Int))=true by rw[decide_eq_true_iff,hml]; omega]; cases R<;>rfl)
 ·have hw:=zhf true w h1
  show Ct _ _ [.agg [.lf (.v (.bool true)),.lf (.recs 3 (gnR w.1)),.lf (z1s w.2),.lf (.ints .i64 r),.lf (.recs 3 (gnR g))]] _ _ _ _
  rw[show z3J (some w)=z2b w from rfl]
  generalize z2b w=A at*
  obtain⟨wn,ws⟩:=w
  cases A with
  | false=>
    refine z00 Tryz.func42 rfl rfl rfl rfl rfl (fun E hn hb=>?_)
    repeat (first | refine nx ?_ | refine z4L rfl rfl ?_ | refine wgF (lv (.bool false)) hn ?_)
    refine rt2 [] (congrArg (fun x=>lv (.bool x)) ?_) trivial
    first | rfl |(cases R<;>rfl) |(simp; done) |(rw[hml]; simp; omega) |(rw[show decide ((0:Int)<((gnR g).length:Int))=true by rw[decide_eq_true_iff,hml]; omega]; cases R<;>rfl)
  | true=>
    by_cases h0:g= []
    ·subst h0
     refine z00 Tryz.func42 rfl rfl rfl rfl rfl (fun E hn hb=>?_)
     repeat (first | refine nx ?_ | refine z4L rfl rfl ?_ | refine wgF (lv (.bool false)) hn ?_)
     refine rt2 [] (congrArg (fun x=>lv (.bool x)) ?_) trivial
     first | rfl |(cases R<;>rfl) |(simp; done) |(rw[hml]; simp; omega) |(rw[show decide ((0:Int)<((gnR g).length:Int))=true by rw[decide_eq_true_iff,hml]; omega]; cases R<;>rfl)
    ·have hgp:0<g.length:=List.length_pos_iff.2 h0
     rw[decide_eq_false (by omega:¬ g.length=0),decide_eq_true hgp]
     cases G with
     | true=>
       refine z00 Tryz.func42 rfl rfl rfl rfl rfl (fun E hn hb=>?_)
       repeat (first | refine nx ?_ | refine z4L rfl rfl ?_ | refine wgF (lv (.bool false)) hn ?_)
       refine rt2 [] (congrArg (fun x=>lv (.bool x)) ?_) trivial
       first | rfl |(cases R<;>rfl) |(simp; done) |(rw[hml]; simp; omega) |(rw[show decide ((0:Int)<((gnR g).length:Int))=true by rw[decide_eq_true_iff,hml]; omega]; cases R<;>rfl)
     | false=>
       refine z00 Tryz.func42 rfl rfl rfl rfl rfl (fun E hn hb=>?_)
       repeat (first | refine nx ?_ | refine z4L rfl rfl ?_ | refine wgF (lv (.bool false)) hn ?_)
       refine rt2 [] (congrArg (fun x=>lv (.bool x)) ?_) trivial
       first | rfl |(cases R<;>rfl) |(simp; done) |(rw[hml]; simp; omega) |(rw[show decide ((0:Int)<((gnR g).length:Int))=true by rw[decide_eq_true_iff,hml]; omega]; cases R<;>rfl)
end Go.Proofs.YtaagjnlkinojcaaGreat

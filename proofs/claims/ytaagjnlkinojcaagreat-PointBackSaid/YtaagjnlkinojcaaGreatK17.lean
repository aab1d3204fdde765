/-
  Chapter 16: truths written by the program into a sheet. The conditions: right ones, rows that a machine can hold.
-/
import Derived.Test.YtaagjnlkinojcaaGreatK8
import Derived.Test.YtaagjnlkinojcaaGreatQ28
import Derived.Test.YtaagjnlkinojcaaGreatO7
import Derived.Test.YtaagjnlkinojcaaGreatC7
import Derived.Test.YtaagjnlkinojcaaGreatD15
import Derived.Test.YtaagjnlkinojcaaGreatN1
import Derived.Test.YtaagjnlkinojcaaGreatJ5
import Derived.Test.YtaagjnlkinojcaaGreatP0
namespace Go.Proofs.YtaagjnlkinojcaaGreat
set_option linter.unusedSimpArgs false
set_option linter.unusedVariables false
open Go Go.Sx
set_option maxRecDepth 10000
structure WhV (w:WhT):Prop where
 b:WhB w
 l:(w.1.flatMap z0l).length≤13000000
 s:(w.2.flatMap atW).length≤13000000
 w:WfB (w.2.flatMap atW)
set_option maxHeartbeats 4000000 in
theorem zg8 (b:Bool) (w:WhT) (h:b=true→WhV w) (hok:b=true→z2b w=true):Ct Tryz.prog 93 [rwA b w] [] (.c (.own 0 1 0 (z18 (if b=true then some w else none)).length)) [] [rB (z18 (if b=true then some w else none))]:=by
 cases b
 ·rw[if_neg (by simp)]
  refine z00 Tryz.func93 rfl rfl rfl rfl rfl (fun E hn hb=>?_)
  repeat refine nx ?_
  refine z7W 2 900 1 (.ints .u8 []) rfl rfl (.inr (.inl ⟨_,rfl⟩)) ?_
  exact rt1 [900]
 ·replace h:=h rfl
  replace hok:=hok rfl
  rw[if_pos rfl]
  have hl1:=h.b.l
  unfold z2b at hok
  by_cases hs:0<w.2.length
  ·rw[if_pos hs,Bool.and_eq_true,decide_eq_true_iff] at hok
   obtain⟨k1,k2⟩:=hok
   have hp:z18 (some w)=z05 (2,0,true) (z05 (2,1,true) (w.2.flatMap atW)):=by
    show z05 (2,0,true) (z2o w)=_
    unfold z2o
    rw[if_pos hs]
   rw[hp]
   have c0:=fun _:Unit=>z4p 0 true
   have c1:=fun _:Unit=>z4p 1 true
   have hg:=z8b [] (Nat.zero_le _) (fun _ h=>absurd h List.not_mem_nil) (fun _ h=>absurd h List.not_mem_nil) (Nat.zero_le _)
   have wA:=fun _:Unit=>z1R (2,0,true) [] (by decide) (Nat.zero_le _)
   have hst:=zbz w.2 h.b.a (z3u k2).2.2.1 h.b.s (by have:=h.s; omega)
   have hsl:=z0s (ofT 17) (w.2.flatMap atW)
   have hco:=zfY (ofT 17) (w.2.flatMap atW) (by decide) (by have:=h.s; omega) h.w
   have wB:=fun _:Unit=>z1R (2,1,true) (w.2.flatMap atW) (by decide) (by have:=h.s; omega)
   have hbl:=z0s (2,1,true) (w.2.flatMap atW)
   have wC:=fun _:Unit=>z5f (2,0,true) (z05 (2,1,true) (w.2.flatMap atW)) (by decide) (by have:=h.s; omega)
   have hq:([]:List GnT).flatMap z0l= []:=rfl
   rw[hq] at hg
   change Ct _ _ _ _ (B8 (z05 (ofT 17) (w.2.flatMap atW))) _ _ at hst
   have hss:=h.s
   clear h
   obtain⟨g,s⟩:=w
   obtain rfl:=List.eq_nil_of_length_eq_zero k1
   dsimp only at*
   have hml:(s.map atL).length=s.length:=List.length_map ..
   generalize s.flatMap atW=X at*
   generalize z05 (ofT 17) X=V at*
   generalize z05 (2,1,true) X=U at*
   refine z00 Tryz.func93 rfl rfl rfl rfl rfl (fun E hn hb=>?_)
   have c:=c0 ()
   have wr:=wA ()
   repeat refine nx ?_
   clear c wr
   have c:=c1 ()
   have wr:=wB ()
   repeat refine nx ?_
   clear c wr
   have c:=c0 ()
   have wr:=wC ()
   repeat refine nx ?_
   exact rt1 [88]
  ·rw[if_neg hs] at hok
   have hp:z18 (some w)=z05 (2,0,true) (z05 (2,0,true) (w.1.flatMap z0l)):=by
    show z05 (2,0,true) (z2o w)=_
    unfold z2o
    rw[if_neg hs]
   rw[hp]
   have c0:=z4p 0 true
   have hg:=z8b w.1 h.b.l h.b.g (z1P hok).2.2 (by have:=h.l; omega)
   have wA:=fun _:Unit=>z1R (2,0,true) (w.1.flatMap z0l) (by decide) (by have:=h.l; omega)
   have hbl:=z0s (2,0,true) (w.1.flatMap z0l)
   have wC:=fun _:Unit=>z5f (2,0,true) (z05 (2,0,true) (w.1.flatMap z0l)) (by decide) (by have:=h.l; omega)
   clear h
   obtain⟨g,s⟩:=w
   obtain rfl:=List.eq_nil_of_length_eq_zero (show s.length=0 by dsimp only at hs; omega)
   dsimp only at*
   generalize g.flatMap z0l=X at*
   generalize z05 (2,0,true) X=U at*
   refine z00 Tryz.func93 rfl rfl rfl rfl rfl (fun E hn hb=>?_)
   have wr:=wA ()
   repeat refine nx ?_
   clear wr
   have wr:=wC ()
   repeat refine nx ?_
   exact rt1 [88]
theorem z7A (k:Int) (x:Bool):(z2p k x).length≤21:=by
 unfold z2p
 split
 ·exact z0s _ _
 ·exact Nat.zero_le _
theorem z66 (k:Int) {l:List Int} (h:z0T l=true):(z1V k l).length≤23:=by
 unfold z1V
 by_cases h0:l.length=0
 ·rw[if_pos h0]; exact Nat.zero_le _
 ·rw[if_neg h0]
  have h1:=z0s (2,k,false) (flC l)
  have h2:=(zad h (fun e=>h0 (by rw[e]; rfl))).2
  omega
end Go.Proofs.YtaagjnlkinojcaaGreat
namespace Go.Proofs.YtaagjnlkinojcaaGreat
set_option linter.unusedSimpArgs false
set_option linter.unusedVariables false
open Go.Sx
set_option maxRecDepth 10000
def cnI (a b c:Bool):Nat→Int
 | 0=>0
 | 1=>if a=true then 1 else 0
 | 2=>(if a=true then 1 else 0)+(if b=true then 1 else 0)
 | _=>zd4 a b c
abbrev b3V (a b c:Bool):Av:= .c (.lf (.recs 1 [[.v (.bool a)],[.v (.bool b)],[.v (.bool c)]]))
set_option maxHeartbeats 4000000 in
theorem zk7 (a b c:Bool):Ct Tryz.prog 85 [b3V a b c] [] (lv (.int .i64 (zd4 a b c))) [] []:=by
 refine z00 Tryz.func85 rfl rfl rfl rfl rfl (fun E hn hb=>?_)
 repeat refine nx ?_
 refine z09 (St.le_of (l:= [(3,lv (.int .i64 (cnI a b c 0))),(6,b3V a b c),(7,lv (.int .i64 3)),(8,lv (.int .i64 ((0:Nat):Int)))]) (h:= []) (by refine⟨?_,?_⟩<;>(repeat' (first | exact trivial | exact rfl | refine⟨?_,?_⟩))<;>first | exact rfl |(simp; done) | skip)) ?_
 refine z0k (ι:= {i:Nat//i≤3}) (fun i=>St.of [(3,lv (.int .i64 (cnI a b c i.1))),(6,b3V a b c),(7,lv (.int .i64 3)),(8,lv (.int .i64 (i.1:Int)))] []) (fun i=>3 -i.1) (fun i=>?_) ⟨0,Nat.zero_le _⟩
 obtain⟨i,hi⟩:=i
 dsimp only
 obtain rfl | rfl | rfl | rfl:i=0∨i=1∨i=2∨i=3:=by omega
 ·cases a
  ·repeat refine nx ?_
   refine z08 ⟨1,by omega⟩ (by dsimp only; omega) (St.le_of ⟨⟨rfl,rfl,rfl,rfl⟩,trivial⟩)
  ·simp only[cnI]
   repeat refine nx ?_
   refine z08 ⟨1,by omega⟩ (by dsimp only; omega) (St.le_of ⟨⟨rfl,rfl,rfl,rfl⟩,trivial⟩)
 ·cases b
  ·cases a
   all_goals
    repeat refine nx ?_
    refine z08 ⟨2,by omega⟩ (by dsimp only; omega) (St.le_of ⟨⟨rfl,rfl,rfl,rfl⟩,trivial⟩)
  ·cases a
   all_goals
    simp only[cnI]
    repeat refine nx ?_
    refine z08 ⟨2,by omega⟩ (by dsimp only; omega) (St.le_of ⟨⟨rfl,rfl,rfl,rfl⟩,trivial⟩)
 ·cases c
  ·cases a<;>cases b
   all_goals
    repeat refine nx ?_
    refine z08 ⟨3,by omega⟩ (by dsimp only; omega) (St.le_of ⟨⟨rfl,rfl,rfl,rfl⟩,trivial⟩)
  ·cases a<;>cases b
   all_goals
    simp only[cnI]
    repeat refine nx ?_
    refine z08 ⟨3,by omega⟩ (by dsimp only; omega) (St.le_of ⟨⟨rfl,rfl,rfl,rfl⟩,trivial⟩)
 ·repeat refine nx ?_
  exact rt1 []
abbrev zdD (o:Option WhT) (f:Bool×Bool×Bool×Bool) (r:List Int):Av:= .agg [.lf (wpL o),.lf (.v (.bool f.1)),.lf (.v (.bool f.2.1)),.lf (.v (.bool f.2.2.1)),.lf (.v (.bool f.2.2.2)),.lf (.ints .i64 r)]
set_option maxHeartbeats 4000000 in
theorem zae (o:Option WhT) (f:Bool×Bool×Bool×Bool) (r:List Int) (h:z4I o) (hl:r.length≤16000000):Ct Tryz.prog 32 [zdD o f r] [] (lv (.bool (z4M (o,f,r)))) [] []:=by
 obtain⟨f1,f2,f3,f4⟩:=f
 have hc:=zk7 f1 f2 f4
 have hp:=zcS o r h hl
 unfold z4M
 dsimp only
 generalize zd4 f1 f2 f4=n at*
 generalize (z3J o&&z0T r)=X at*
 cases X
 ·rcases o with _ | w
  ·refine z00 Tryz.func32 rfl rfl rfl rfl rfl (fun E hn hb=>?_)
   repeat refine nx ?_
   exact rt1 []
  ·refine z00 Tryz.func32 rfl rfl rfl rfl rfl (fun E hn hb=>?_)
   repeat (first | refine nx ?_ | refine wgF (lv (.bool false)) hn ?_)
   exact rt1 []
 ·by_cases h2:n<2
  ·have e2:decide (n<2)=true:=decide_eq_true h2
   have eL:decide ((0:Int)<(r.length:Int))=decide (0<r.length):=decide_eq_decide.2 (by omega)
   rw[e2]
   generalize decide (0<r.length)=L at*
   generalize e3:decide (0<n)=P at*
   rcases o with _ | w
   ·cases L<;>cases P
    all_goals
     refine z00 Tryz.func32 rfl rfl rfl rfl rfl (fun E hn hb=>?_)
     repeat (first | refine nx ?_ | rw[e2] | rw[eL] | rw[e3])
     exact rt1 []
   ·refine z00 Tryz.func32 rfl rfl rfl rfl rfl (fun E hn hb=>?_)
    repeat (first | refine nx ?_ | rw[e2] | rw[eL] | rw[e3])
    refine z4L rfl rfl ?_
    refine z1b (z0L (z4f (neg:=true) rfl rfl rfl rfl (by exact vcs)) rfl) (by rw[hn]; rfl) ?_
    repeat (first | refine nx ?_ | rw[e2] | rw[eL] | rw[e3])
    exact rt1 []
  ·have e2:decide (n<2)=false:=decide_eq_false h2
   rw[e2]
   rcases o with _ | w
   ·refine z00 Tryz.func32 rfl rfl rfl rfl rfl (fun E hn hb=>?_)
    repeat (first | refine nx ?_ | rw[e2])
    exact rt1 []
   ·refine z00 Tryz.func32 rfl rfl rfl rfl rfl (fun E hn hb=>?_)
    repeat (first | refine nx ?_ | rw[e2] | refine wgF (lv (.bool false)) hn ?_)
    exact rt1 []
theorem zvY {x:List Int} (hw:WfB x) (hl:x.length≤11760000) (p:Nat) (t:z0h):z4I (z0i none x p t z3t).1:=by
 rw[←z48 none x p t z7j]
 rcases z3F none x p t z2t with h |⟨y,h1,h2,h3,h⟩
 ·rw[h]; trivial
 ·rw[h]; exact zdo (fun z hz=>hw z (h2 z hz)) (by omega)
theorem zvZ (x:List Int) (p:Nat) (t:z0h):(z0i [] x p t z1p).1.length≤32:=by
 rcases z3F [] x p t z1p with h |⟨y,h1,h2,h3,h⟩
 ·rw[h]; simp
 ·rw[h]; exact z9o y
def z2S (x:List Int):ScT×Nat×Int:=
 let a:=z0O none 0 x 0 (2,0,true) z2t
 let b:=z0O false a.2.2 x a.2.1 (2,1,false) z1E
 let c:=z0O false b.2.2 x b.2.1 (2,2,false) z1E
 let d:=z0O [] c.2.2 x c.2.1 (2,3,false) z1p
 let f:=z0O false d.2.2 x d.2.1 (2,4,false) z1E
 let g:=z0O false f.2.2 x f.2.1 (2,5,false) z1E
 ((a.1,(b.1,c.1,f.1,g.1),d.1),g.2.1,g.2.2)
theorem z8O (x:List Int):(z1E x).2.1≤x.length:=by
 unfold z1E
 split
 ·exact Nat.le_refl _
 ·exact Nat.le_refl _
set_option maxHeartbeats 4000000 in
theorem zk8 (x:List Int) (hl:x.length≤11760000) (hw:WfB x):Ct Tryz.prog 89 [.c (.ptr 0 0)] [z2d 0,z04 x 0] (zdD (z2S x).1.1 (z2S x).1.2.1 (z2S x).1.2.2) [z2d (z2S x).2.2,z04 x (z2S x).2.1] []:=by
 have h1:=zcA x 0 0 true 52 0 z2t (Nat.zero_le _) hl hw ze6 (fun y hy hwy=>zcy y (by omega) hwy)
 unfold z2S
 dsimp only
 have l1:=z28 none 0 x 0 (2,0,true) z2t (Nat.zero_le _)
 generalize z0O none 0 x 0 (2,0,true) z2t=A at*
 obtain⟨a,pa,ea⟩:=A
 dsimp only at*
 have h2:=fun _:Unit=>z7e x pa 1 false 91 ea z1E l1.2 (by omega) hw z8O (fun y hy hwy=>z7d y (by omega))
 have l2:=z28 false ea x pa (2,1,false) z1E l1.2
 generalize z0O false ea x pa (2,1,false) z1E=B at*
 obtain⟨b,pb,eb⟩:=B
 dsimp only at*
 have h3:=fun _:Unit=>z7e x pb 2 false 91 eb z1E l2.2 (by omega) hw z8O (fun y hy hwy=>z7d y (by omega))
 have l3:=z28 false eb x pb (2,2,false) z1E l2.2
 generalize z0O false eb x pb (2,2,false) z1E=C at*
 obtain⟨c,pc,ec⟩:=C
 dsimp only at*
 have h4:=zcL x pc 3 false 54 ec z1p l3.2 (by omega) hw zeH (fun y hy hwy=>zaZ y (by omega) hwy)
 have l4:=z28 [] ec x pc (2,3,false) z1p l3.2
 generalize z0O [] ec x pc (2,3,false) z1p=D at*
 obtain⟨d,pd,ed⟩:=D
 dsimp only at*
 have h5:=fun _:Unit=>z7e x pd 4 false 91 ed z1E l4.2 (by omega) hw z8O (fun y hy hwy=>z7d y (by omega))
 have l5:=z28 false ed x pd (2,4,false) z1E l4.2
 generalize z0O false ed x pd (2,4,false) z1E=F at*
 obtain⟨f,pf,ef⟩:=F
 dsimp only at*
 have h6:=fun _:Unit=>z7e x pf 5 false 91 ef z1E l5.2 (by omega) hw z8O (fun y hy hwy=>z7d y (by omega))
 generalize z0O false ef x pf (2,5,false) z1E=G at*
 obtain⟨g,pg,eg⟩:=G
 dsimp only at*
 rcases a with _ |⟨w1,w2⟩
 ·change Ct _ _ _ _ (.c (.lf (.v (.pointer none)))) _ _ at h1
  change Ct _ _ _ _ (.agg [.lf (.v (.pointer none)),_,_,_,_,_]) _ _
  refine z00 Tryz.func89 rfl rfl rfl rfl rfl (fun E hn hb=>?_)
  have ct:=h2 ()
  repeat refine nx ?_
  clear ct
  have ct:=h3 ()
  repeat refine nx ?_
  clear ct
  have ct:=h5 ()
  repeat refine nx ?_
  clear ct
  have ct:=h6 ()
  repeat refine nx ?_
  exact rt1 []
 ·change Ct _ _ _ _ (.c (.lf (.obj [.recs 3 (gnR w1),z1s w2]))) _ _ at h1
  change Ct _ _ _ _ (.agg [.lf (.obj [.recs 3 (gnR w1),z1s w2]),_,_,_,_,_]) _ _
  refine z00 Tryz.func89 rfl rfl rfl rfl rfl (fun E hn hb=>?_)
  have ct:=h2 ()
  repeat refine nx ?_
  clear ct
  have ct:=h3 ()
  repeat refine nx ?_
  clear ct
  have ct:=h5 ()
  repeat refine nx ?_
  clear ct
  have ct:=h6 ()
  repeat refine nx ?_
  exact rt1 []
theorem zeU (x:List Int):z8a x=(if(z2S x).2.2=0 then(if(z2S x).2.1<x.length then(sc0,7) else if z4M (z2S x).1=true then((z2S x).1,0) else(sc0,6)) else(sc0,(z2S x).2.2)):=by
 unfold z8a z2S z0O
 rw[if_pos rfl,z48 none x 0 (2,0,true) z7j]
 dsimp only
 generalize z0i none x 0 (2,0,true) z3t=A
 obtain⟨a,pa,ea⟩:=A
 dsimp only
 by_cases h1:ea=0
 ·subst h1
  rw[if_pos rfl]
  simp only[if_true]
  generalize z0i false x pa (2,1,false) z1E=B
  obtain⟨b,pb,eb⟩:=B
  dsimp only
  by_cases h2:eb=0
  ·subst h2
   simp only[if_true]
   generalize z0i false x pb (2,2,false) z1E=C
   obtain⟨c,pc,ec⟩:=C
   dsimp only
   by_cases h3:ec=0
   ·subst h3
    simp only[if_true]
    generalize z0i [] x pc (2,3,false) z1p=D
    obtain⟨d,pd,ed⟩:=D
    dsimp only
    by_cases h4:ed=0
    ·subst h4
     simp only[if_true]
     generalize z0i false x pd (2,4,false) z1E=F
     obtain⟨f,pf,ef⟩:=F
     dsimp only
     by_cases h5:ef=0
     ·subst h5
      simp only[if_true]
     ·simp only[if_neg h5]
    ·simp only[if_neg h4]
   ·simp only[if_neg h3]
  ·simp only[if_neg h2]
 ·simp only[if_neg h1]
theorem zoP (x:List Int):(z2S x).2.1≤x.length:=by
 unfold z2S
 dsimp only
 exact(z28 _ _ _ _ _ _ (z28 _ _ _ _ _ _ (z28 _ _ _ _ _ _ (z28 _ _ _ _ _ _ (z28 _ _ _ _ _ _ (z28 _ _ _ _ _ _ (Nat.zero_le _)).2).2).2).2).2).2
theorem zi5 {x:List Int} (hw:WfB x) (hl:x.length≤11760000):z4I (z2S x).1.1∧(z2S x).1.2.2.length≤32:=by
 have e1:z4I (z0O none 0 x 0 (2,0,true) z2t).1:=by
  rcases z4O none 0 x 0 (2,0,true) z2t with h |⟨y,h1,h2,h3,h⟩
  ·rw[h]; trivial
  ·rw[h]; exact zdo (fun z hz=>hw z (h2 z hz)) (by omega)
 have e2:∀(e:Int) (p:Nat),(z0O [] e x p (2,3,false) z1p).1.length≤32:=fun e p=>by
  rcases z4O [] e x p (2,3,false) z1p with h |⟨y,h1,h2,h3,h⟩
  ·rw[h]; simp
  ·rw[h]; exact z9o y
 unfold z2S
 exact⟨e1,e2 _ _⟩
theorem z58:z3q (.agg [.lf (.v (.pointer none)),.lf (.v (.bool false)),.lf (.v (.bool false)),.lf (.v (.bool false)),.lf (.v (.bool false)),z73]) (zdD none (false,false,false,false) []):=⟨.inl rfl,.inl rfl,.inl rfl,.inl rfl,.inl rfl,.inr ⟨rfl,.inl ⟨_,rfl⟩⟩,trivial⟩
abbrev zrr (s:ScT):Av:=zdD s.1 s.2.1 s.2.2
set_option maxHeartbeats 4000000 in
theorem zi6 (l:List Int) (p:Nat) (hp:p≤l.length) (hl:l.length≤11760000) (hw:WfB l):Ct Tryz.prog 88 [.c (.ptr 0 0),.c (.fn (.func 89) [] []),.c (.fn (.func 32) [] [])] [z04 l p] (.tup [zrr (z3x l p).1,lv (.int .i64 (z3x l p).2.2)]) [z04 l (z3x l p).2.1] []:=by
 have hop:=z26 l p (ofT 16) hp (by omega) hw
 have hoe:=z2s l p (ofT 16) hp (by omega) hw
 have hmem:=z0H l p (ofT 16)
 have hof:=z1d 16
 have hat:=z1z l p
 have hle0:=z24 l p (ofT 16) hp
 unfold z3x
 dsimp only
 generalize z0r l p (ofT 16)=X at*
 obtain⟨x,q,e⟩:=X
 dsimp only at*
 by_cases he:e=0
 ·subst he
  have hop:=hop rfl
  rw[if_pos rfl]
  have hbk:=z1L l q p hle0.1 (by omega)
  have hwx:WfB x:=fun z hz=>hw z (hmem.2 z hz)
  have hr:=zk8 x (by omega) hwx
  have hbb:=zi5 hwx (by omega)
  have hB:=zae (z2S x).1.1 (z2S x).1.2.1 (z2S x).1.2.2 hbb.1 (by omega)
  have hle:=zoP x
  rw[zeU]
  have hlf:=z0S x (z2S x).2.1 hle (by omega)
  generalize z2S x=R at*
  obtain⟨⟨w,f,r⟩,s,fe⟩:=R
  dsimp only at*
  generalize z4M (w,f,r)=K at*
  obtain⟨f1,f2,f3,f4⟩:=f
  rcases w with _ |⟨w1,w2⟩
  ·change Ct _ _ _ _ (.agg [.lf (.v (.pointer none)),.lf (.v (.bool f1)),.lf (.v (.bool f2)),.lf (.v (.bool f3)),.lf (.v (.bool f4)),.lf (.ints .i64 r)]) _ _ at hr
   change Ct _ _ [.agg [.lf (.v (.pointer none)),.lf (.v (.bool f1)),.lf (.v (.bool f2)),.lf (.v (.bool f3)),.lf (.v (.bool f4)),.lf (.ints .i64 r)]] _ _ _ _ at hB
   by_cases hf:fe=0
   ·subst hf
    rw[if_pos rfl]
    by_cases hlt:s<x.length
    ·rw[if_pos hlt]
     refine z00 Tryz.func88 rfl rfl rfl rfl rfl (fun E hn hb=>?_)
     repeat refine nx ?_
     refine rtU [] (hu:=?_)
     exact⟨z58,.inl rfl,trivial⟩
    ·rw[if_neg hlt]
     cases K with
     | true=>
       refine z00 Tryz.func88 rfl rfl rfl rfl rfl (fun E hn hb=>?_)
       repeat refine nx ?_
       exact rt1 []
     | false=>
       refine z00 Tryz.func88 rfl rfl rfl rfl rfl (fun E hn hb=>?_)
       repeat refine nx ?_
       refine rtU [] (hu:=?_)
       exact⟨z58,.inl rfl,trivial⟩
   ·rw[if_neg hf,if_neg hf]
    refine z00 Tryz.func88 rfl rfl rfl rfl rfl (fun E hn hb=>?_)
    repeat refine nx ?_
    refine rtU [] (hu:=?_)
    exact⟨z58,.inl rfl,trivial⟩
  ·change Ct _ _ _ _ (.agg [.lf (.obj [.recs 3 (gnR w1),z1s w2]),.lf (.v (.bool f1)),.lf (.v (.bool f2)),.lf (.v (.bool f3)),.lf (.v (.bool f4)),.lf (.ints .i64 r)]) _ _ at hr
   change Ct _ _ [.agg [.lf (.obj [.recs 3 (gnR w1),z1s w2]),.lf (.v (.bool f1)),.lf (.v (.bool f2)),.lf (.v (.bool f3)),.lf (.v (.bool f4)),.lf (.ints .i64 r)]] _ _ _ _ at hB
   by_cases hf:fe=0
   ·subst hf
    rw[if_pos rfl]
    by_cases hlt:s<x.length
    ·rw[if_pos hlt]
     refine z00 Tryz.func88 rfl rfl rfl rfl rfl (fun E hn hb=>?_)
     repeat refine nx ?_
     refine rtU [] (hu:=?_)
     exact⟨z58,.inl rfl,trivial⟩
    ·rw[if_neg hlt]
     cases K with
     | true=>
       refine z00 Tryz.func88 rfl rfl rfl rfl rfl (fun E hn hb=>?_)
       repeat refine nx ?_
       exact rt1 []
     | false=>
       refine z00 Tryz.func88 rfl rfl rfl rfl rfl (fun E hn hb=>?_)
       repeat refine nx ?_
       refine rtU [] (hu:=?_)
       exact⟨z58,.inl rfl,trivial⟩
   ·rw[if_neg hf,if_neg hf]
    refine z00 Tryz.func88 rfl rfl rfl rfl rfl (fun E hn hb=>?_)
    repeat refine nx ?_
    refine rtU [] (hu:=?_)
    exact⟨z58,.inl rfl,trivial⟩
 ·have hoe:=hoe he
  rw[if_neg he]
  refine z00 Tryz.func88 rfl rfl rfl rfl rfl (fun E hn hb=>?_)
  repeat refine nx ?_
  refine rtU [] (hu:=?_)
  exact⟨z58,.inl rfl,trivial⟩
theorem zi7 (l:List Int) (p:Nat) (hp:p≤l.length) (hl:l.length≤11760000) (hw:WfB l):Ct Tryz.prog 34 [.c (.ptr 0 0)] [z04 l p] (.tup [zrr (z3x l p).1,lv (.int .i64 (z3x l p).2.2)]) [z04 l (z3x l p).2.1] []:=by
 have hs:=zi6 l p hp hl hw
 generalize z3x l p=R at*
 obtain⟨⟨w,⟨f1,f2,f3,f4⟩,r⟩,s,fe⟩:=R
 dsimp only at*
 rcases w with _ |⟨w1,w2⟩
 ·change Ct _ _ _ _ (.tup [.agg [.lf (.v (.pointer none)),.lf (.v (.bool f1)),.lf (.v (.bool f2)),.lf (.v (.bool f3)),.lf (.v (.bool f4)),.lf (.ints .i64 r)],_]) _ _ at hs
  refine z00 Tryz.func34 rfl rfl rfl rfl rfl (fun E hn hb=>?_)
  repeat refine nx ?_
  exact rt1 []
 ·change Ct _ _ _ _ (.tup [.agg [.lf (.obj [.recs 3 (gnR w1),z1s w2]),.lf (.v (.bool f1)),.lf (.v (.bool f2)),.lf (.v (.bool f3)),.lf (.v (.bool f4)),.lf (.ints .i64 r)],_]) _ _ at hs
  refine z00 Tryz.func34 rfl rfl rfl rfl rfl (fun E hn hb=>?_)
  repeat refine nx ?_
  exact rt1 []
end Go.Proofs.YtaagjnlkinojcaaGreat
namespace Go.Proofs.YtaagjnlkinojcaaGreat
set_option linter.unusedSimpArgs false
set_option linter.unusedVariables false
open Go Go.Sx
set_option maxRecDepth 10000
set_option maxHeartbeats 4000000 in
theorem z6s (k:Int) (x:Bool) (t:z0h) (l:List Int) (n:Nat) (us:List Value) (hk:0≤k∧k≤30) (hl:l.length≤14000000) (hu:us.length=5*n) (hn0:0<n) (hnl:n≤800):
  CtM Tryz.prog 81 [.agg [.ptr 0 0],lv (.int .i64 k),lv (.bool x)] [shG t false (.own 1 1 0 l.length) (.own 2 5 0 n) 0,rB l,.fr us []] (.tup []) [shG t false (.own 3 1 0 (l++z2p k x).length) (.own 4 5 0 n) 0,.gone,.gone] [rB (l++z2p k x),.fr us []]:=by
 unfold z2p
 cases x with
 | false=>
   rw[if_neg (by simp),List.append_nil]
   refine z17 Tryz.func81 rfl rfl rfl rfl rfl (fun E hn hb=>?_)
   repeat refine nx ?_
   exact rtM [1,2]
 | true=>
   rw[if_pos rfl]
   have hat:=z1j k false
   have hrt:z0q (2,k,false)=true:=by unfold z0q; dsimp only; rw[decide_eq_true_iff]; omega
   have ho:=z7v t (2,k,false) false l n us hu hn0 (by omega)
   have hpu:=fun(a:Option Addr) (c:Nat)=>z5G (2,k,false) false [] [[255]] a (n+1) c (Nat.le_of_ble_eq_true rfl) (Nat.le_of_ble_eq_true rfl)
   have hsh:=z3z (2,k,false) t false [255] l n us hu hrt (by rw[List.length_singleton]; omega) (by omega)
   generalize z05 (2,k,false) [255]=W at*
   refine z17 Tryz.func81 rfl rfl rfl rfl rfl (fun E hn hb=>?_)
   repeat refine nxw ?_
   refine duF [75] [(4,0),(4,1),(4,2),(4,75)] ?_
   repeat (first | refine nx ?_ | refine z9i [0,1,2] hn ho ?_)
   refine z4x (fun a w h=>SR.cell_nil 0 4 900 rfl rfl rfl rfl rfl h) ?_
   repeat refine nx ?_
   refine z1w (l:= [(3,.c (.ptr 67 0))]) (hs:= [(0,shG (2,k,false) false (.own 80 1 0 ([255]:List Int).length) (.own 75 5 0 (n+1)) 0),(1,rB l),(80,rB [255]),(67,.cells [.ptr 0 0]),(75,.fr us (frC t false (.own 1 1 0 l.length)))]) [0,900] 0 5 hpu rfl rfl (by rw[hn]; rfl) rfl (fun _ _=>rfl) rfl rfl (fun _ _=>rfl) (fun _ _=>trivial) (fun _ _=>⟨rfl,⟨rfl,rfl⟩,(by simp[z0b]),rfl⟩) (fun _ _=>rfl) (fun _ _=>rfl) (fun _ _=>by repeat' (first | exact trivial | exact rfl | exact congrArg (fun x=>lv (.int .i64 x)) (by omega) | refine⟨?_,?_⟩)) ?_
   repeat refine nx ?_
   refine z4U 80 0 ?_
   refine z2D [0,75,1] hsh rfl rfl (by rw[hn]; rfl) rfl rfl (by trivial) ⟨rfl,⟨rfl,rfl,rfl⟩,(by simp[z0b]),rfl⟩ ?_
   repeat refine nx ?_
   exact rtN [83,75]
end Go.Proofs.YtaagjnlkinojcaaGreat

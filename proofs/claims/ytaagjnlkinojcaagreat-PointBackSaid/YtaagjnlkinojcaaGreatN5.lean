/-
  Chapter 15, plain laws: general names up to the end. No condition.
-/
import Derived.Test.YtaagjnlkinojcaaGreatN1
import Derived.Test.YtaagjnlkinojcaaGreatM3
import Derived.Test.YtaagjnlkinojcaaGreatW27
import Derived.Test.YtaagjnlkinojcaaGreatA19
import Derived.Test.YtaagjnlkinojcaaGreatD15
import Derived.Test.YtaagjnlkinojcaaGreatC12
import Derived.Test.YtaagjnlkinojcaaGreatE8
namespace Go.Proofs.YtaagjnlkinojcaaGreat
set_option linter.unusedSimpArgs false
set_option linter.unusedVariables false
open Go Go.Sx
set_option maxRecDepth 10000
theorem zer (x:List Int) (p:Nat) (hp:p≤x.length):p≤(z39 x p).2.1∧(z39 x p).2.1≤x.length:=by
 have h:=z24 x p (ofT 16) hp
 unfold z39
 dsimp only
 split
 ·exact h
 ·exact⟨Nat.le_refl _,hp⟩
theorem zjj (n:Nat):0<(z0I n).length:=by
 unfold z0I
 split<;>simp
theorem z1n (t:z0h) (b:List Int):0<(z05 t b).length:=by
 unfold z05
 simp only[List.length_append]
 have:0<(z0I b.length).length:=zjj _
 omega
theorem z9j {x w:List Int} {p q:Nat} (hq:q≤x.length) (hp:p≤x.length) (h:x.drop p=w++x.drop q):q=p+w.length∧x.take q=x.take p++w:=by
 have hl:=congrArg List.length h
 simp only[List.length_drop,List.length_append] at hl
 have e:q=p+w.length:=by omega
 refine⟨e,?_⟩
 rw[e,List.take_add,h,List.take_left]
theorem zbn:∀ {l:List AtT} {a:AtT},z25 l=true→(l≠ []→z0z (atW (l.getLastD ([],[]))) (atW a)<0)→z25 (l++ [a])=true
 | [],_,_,_=>rfl
 | [b],a,_,h=>by
   have:=h (by simp)
   simp only[List.cons_append,List.nil_append,z25,Bool.and_true,decide_eq_true_eq]
   exact this
 | b::c::l,a,h1,h=>by
   simp only[z25,Bool.and_eq_true] at h1
   have:=zbn (l:=c::l) (a:=a) h1.2 (fun _=>by simpa using h (by simp))
   simp only[List.cons_append,z25,Bool.and_eq_true]
   exact⟨h1.1,this⟩
theorem zbo {x:List Int} (hw:WfB x):∀(f p:Nat) (acc r:List AtT),p≤x.length→x.length -p<f→acc.all z1F=true→z25 acc=true→acc.length≤16→x.take p=acc.flatMap atW→z55 x f p acc=(r,0)→z0C r=true∧x=r.flatMap atW
 | 0,p,acc,r,_,h,_,_,_,_,_=>by omega
 | f+1,p,acc,r,hp,hf,ha,hr,hl,ht,h=>by
   rw[z55] at h
   by_cases h1:p<x.length
   ·rw[if_pos h1] at h
    by_cases h2:acc.length=16
    ·rw[if_pos h2] at h; simp at h
    ·rw[if_neg h2] at h
     have hle:=zer x p hp
     generalize hA:z39 x p=A at*
     obtain⟨a,q,e⟩:=A
     dsimp only at*
     by_cases he:e=0
     ·subst he
      rw[if_pos rfl] at h
      obtain⟨b1,b2⟩:=zbI hw hA
      obtain⟨c1,c2⟩:=z9j hle.2 hp b2
      by_cases h3:acc≠ []∧z0z (atW (acc.getLastD ([],[]))) (atW a)=0
      ·rw[if_pos h3] at h; simp at h
      ·rw[if_neg h3] at h
       by_cases h4:acc≠ []∧0<z0z (atW (acc.getLastD ([],[]))) (atW a)
       ·rw[if_pos h4] at h; simp at h
       ·rw[if_neg h4] at h
        have hpos:0<(atW a).length:=z1n _ _
        refine zbo hw f q (acc++ [a]) r hle.2 (by omega) ?_ (zbn hr fun hn=>?_) (by simp; omega) ?_ h
        ·rw[List.all_append,ha]; simp[b1]
        ·have x1:¬ z0z (atW (acc.getLastD ([],[]))) (atW a)=0:=fun z=>h3 ⟨hn,z⟩
         have x2:¬ 0<z0z (atW (acc.getLastD ([],[]))) (atW a):=fun z=>h4 ⟨hn,z⟩
         omega
        ·rw[c2,ht]; simp
     ·rw[if_neg he] at h
      simp only[Prod.mk.injEq] at h
      exact absurd h.2 he
   ·rw[if_neg h1] at h
    by_cases h2:acc= []
    ·rw[if_pos h2] at h; simp at h
    ·rw[if_neg h2] at h
     simp only[Prod.mk.injEq] at h
     obtain⟨rfl,_⟩:=h
     refine⟨?_,?_⟩
     ·unfold z0C
      have:1≤acc.length:=by cases acc with | nil=>exact absurd rfl h2 | cons=>simp
      simp[ha,hr,hl,this]
     ·rw[←ht,List.take_of_length_le (by omega)]
theorem z6m {l:List Int} {p q:Nat} {r:List AtT} (hw:WfB l) (h:z2e l p=(r,q,0)):z0C r=true∧l.drop p=z0g r++l.drop q:=by
 have hm:=z0H l p (ofT 17)
 unfold z2e at h
 generalize hX:z0r l p (ofT 17)=X at*
 obtain⟨x,q1,e⟩:=X
 dsimp only at*
 by_cases he:e=0
 ·subst he
  rw[if_pos rfl] at h
  generalize hS:z55 x (x.length+1) 0 []=S at*
  obtain⟨r1,f⟩:=S
  dsimp only at h
  by_cases hf:f=0
  ·subst hf
   rw[if_pos rfl] at h
   simp only[Prod.mk.injEq] at h
   obtain⟨rfl,rfl,_⟩:=h
   obtain⟨b1,b2⟩:=zbo (fun z hz=>hw z (hm.2 z hz)) (x.length+1) 0 [] r1 (Nat.zero_le _) (by omega) rfl rfl (by simp) (by simp) hS
   refine⟨b1,?_⟩
   have:=(z2Y hw hX).2
   unfold z0g
   rw[←b2]
   exact this
  ·rw[if_neg hf] at h
   simp only[Prod.mk.injEq] at h
   exact absurd h.2.2 hf
 ·rw[if_neg he] at h
  simp only[Prod.mk.injEq] at h
  exact absurd h.2.2 he
theorem zl4 (l:List Int) (p:Nat) (hp:p≤l.length):p≤(z2e l p).2.1∧(z2e l p).2.1≤l.length:=by
 have h:=z24 l p (ofT 17) hp
 unfold z2e
 dsimp only
 split
 ·split
  ·exact h
  ·exact⟨Nat.le_refl _,hp⟩
 ·exact⟨Nat.le_refl _,hp⟩
theorem zbp {x:List Int} (hw:WfB x):∀(f p:Nat) (acc r:List (List AtT)),p≤x.length→x.length -p<f→acc.all z0C=true→acc.length≤64→x.take p=acc.flatMap z0g→z56 x f p acc=(r,0)→z15 r=true∧x=r.flatMap z0g
 | 0,p,acc,r,_,h,_,_,_,_=>by omega
 | f+1,p,acc,r,hp,hf,ha,hl,ht,h=>by
   rw[z56] at h
   by_cases h1:p<x.length
   ·rw[if_pos h1] at h
    by_cases h2:acc.length=64
    ·rw[if_pos h2] at h; simp at h
    ·rw[if_neg h2] at h
     have hle:=zl4 x p hp
     generalize hA:z2e x p=A at*
     obtain⟨a,q,e⟩:=A
     dsimp only at*
     by_cases he:e=0
     ·subst he
      rw[if_pos rfl] at h
      obtain⟨b1,b2⟩:=z6m hw hA
      obtain⟨c1,c2⟩:=z9j hle.2 hp b2
      have hpos:0<(z0g a).length:=z1n _ _
      refine zbp hw f q (acc++ [a]) r hle.2 (by omega) ?_ (by simp; omega) ?_ h
      ·rw[List.all_append,ha]; simp[b1]
      ·rw[c2,ht]; simp
     ·rw[if_neg he] at h
      simp only[Prod.mk.injEq] at h
      exact absurd h.2 he
   ·rw[if_neg h1] at h
    simp only[Prod.mk.injEq] at h
    obtain⟨rfl,_⟩:=h
    refine⟨by unfold z15; simp[ha,hl],?_⟩
    rw[←ht,List.take_of_length_le (by omega)]
theorem zhk {l:List Int} {p q:Nat} {n:List (List AtT)} (hw:WfB l) (h:z4Q l p=(n,q,0)):z15 n=true∧l.drop p=z1S n++l.drop q:=by
 have hm:=z0H l p (ofT 16)
 unfold z4Q at h
 generalize hX:z0r l p (ofT 16)=X at*
 obtain⟨x,q1,e⟩:=X
 dsimp only at*
 by_cases he:e=0
 ·subst he
  rw[if_pos rfl] at h
  generalize hS:z56 x (x.length+1) 0 []=S at*
  obtain⟨r1,f⟩:=S
  dsimp only at h
  by_cases hf:f=0
  ·subst hf
   rw[if_pos rfl] at h
   simp only[Prod.mk.injEq] at h
   obtain⟨rfl,rfl,_⟩:=h
   obtain⟨b1,b2⟩:=zbp (fun z hz=>hw z (hm.2 z hz)) (x.length+1) 0 [] r1 (Nat.zero_le _) (by omega) rfl (by simp) (by simp) hS
   refine⟨b1,?_⟩
   have:=(z2Y hw hX).2
   unfold z1S
   rw[←b2]
   exact this
  ·rw[if_neg hf] at h
   simp only[Prod.mk.injEq] at h
   exact absurd h.2.2 hf
 ·rw[if_neg he] at h
  simp only[Prod.mk.injEq] at h
  exact absurd h.2.2 he
end Go.Proofs.YtaagjnlkinojcaaGreat
namespace Go.Proofs.YtaagjnlkinojcaaGreat
set_option linter.unusedSimpArgs false
set_option linter.unusedVariables false
open Go.Sx
set_option maxRecDepth 10000
abbrev atA (a:AtT):Av:= .agg [.lf (.ints .i64 a.1),.lf (.ints .u8 a.2)]
structure AtB (a:AtT):Prop where
 o:a.1.length≤16000000
 l:a.2.length≤12000000
 w:WfB a.2
theorem z9Z (x:List Int) (hl:x.length≤12000000) (hw:WfB x):Ct Tryz.prog 223 [B8 x] [] (lv (.bool (z65 x))) [] []:=by
 have hcn:=z2l x (by omega)
 have hwh:=zbi x 0 (Nat.zero_le _) hl hw
 unfold z65
 generalize z12 x 0=W at*
 obtain⟨rs,e⟩:=W
 dsimp only at*
 by_cases he:e=0
 ·subst he
  rw[if_pos rfl] at hwh
  refine z00 Tryz.func223 rfl rfl rfl rfl rfl (fun E hn hb=>?_)
  repeat refine nx ?_
  refine rt2 [] (congrArg (fun x=>lv (.bool x)) ?_) trivial
  have h1:((rs.length:Int)==1)=decide (rs.length=1):=by rw[Bool.eq_iff_iff]; simp; omega
  simp[h1]
 ·rw[if_neg he] at hwh
  rw[decide_eq_false he]
  refine z00 Tryz.func223 rfl rfl rfl rfl rfl (fun E hn hb=>?_)
  repeat refine nx ?_
  refine rt2 [] (congrArg (fun x=>lv (.bool x)) ?_) trivial
  simp[he]
theorem zl5 {a:AtT} (hr:z0W a.1=true):(atW a).length≤a.2.length+1000:=by
 unfold atW z1o
 rw[if_pos hr]
 dsimp only
 have:=z0s (ofT 16) (z05 (ofT 6) (z0v (z0Y a.1))++a.2)
 have:=z0s (ofT 6) (z0v (z0Y a.1))
 have:=z3N hr
 rw[List.length_append] at*
 omega
theorem zd1 (a:AtT) (h:AtB a) (hr:z1F a=true):Ct Tryz.prog 207 [atA a] [] (B8 (atW a)) [] []:=by
 obtain⟨o,v⟩:=a
 obtain⟨h1,h2,h3⟩:=h
 dsimp only at h1 h2 h3
 have hw:=zaU o h1
 have hs:=z9Z v h2 h3
 unfold z1F at hr
 simp only[Bool.and_eq_true] at hr
 have hn:=zl5 (a:=(o,v)) hr.1
 have he:(z1o o).2=0:=by unfold z1o; rw[if_pos hr.1]
 rw[he] at hw
 rw[hr.2] at hs
 have hl:(z1o o).1.length≤1000:=by
  unfold z1o
  rw[if_pos hr.1]
  have:=z0s (ofT 6) (z0v (z0Y o))
  have:=z3N hr.1
  dsimp only
  omega
 have hq:=zdP [(z1o o).1,v] (by simp) (by simp; omega)
 have e2:atW (o,v)=z05 (ofT 16) [(z1o o).1,v].flatten:=by unfold atW; simp
 rw[e2]
 generalize z05 (ofT 16) [(z1o o).1,v].flatten=Y at*
 generalize (z1o o).1=X at*
 refine z00 Tryz.func207 rfl rfl rfl rfl rfl (fun E hn hb=>?_)
 repeat refine nx ?_
 exact rt1 []
theorem zjk (a:AtT) (h:AtB a) (hr:z1F a=false):Ct Tryz.prog 207 [atA a] [] (lv (.slice none 0 0)) [] []:=by
 obtain⟨o,v⟩:=a
 obtain⟨h1,h2,h3⟩:=h
 dsimp only at h1 h2 h3
 have hw:=zaU o h1
 have hs:=z9Z v h2 h3
 unfold z1F at hr
 dsimp only at hr
 by_cases ho:z0W o=true
 ·rw[ho,Bool.true_and] at hr
  rw[hr] at hs
  have he:(z1o o).2=0:=by unfold z1o; rw[if_pos ho]
  rw[he] at hw
  refine z00 Tryz.func207 rfl rfl rfl rfl rfl (fun E hn hb=>?_)
  repeat refine nx ?_
  exact rt1 []
 ·have he:(z1o o).2=1:=by unfold z1o; rw[if_neg ho]
  rw[he] at hw
  refine z00 Tryz.func207 rfl rfl rfl rfl rfl (fun E hn hb=>?_)
  repeat refine nx ?_
  exact rt1 []
theorem zjl (o:List Int) (hr:z0W o=true):Ct Tryz.prog 213 [I64 o] [] (.c (.own 0 1 0 (z05 (ofT 6) (z0v (z0Y o))).length)) [] [.row (.ints .u8 (z05 (ofT 6) (z0v (z0Y o))))]:=by
 have hc:=zgA o hr
 have hf:=z4n 6
 have hl:=z3N hr
 have hw:=z5f (ofT 6) (z0v (z0Y o)) (by decide) (by omega)
 generalize z0v (z0Y o)=X at*
 generalize ofT 6=t at*
 generalize z05 t X=Y at*
 refine z00 Tryz.func213 rfl rfl rfl rfl rfl (fun E hn hb=>?_)
 repeat refine nx ?_
 exact rt1 [70]
theorem zbq (a:AtT) (h:AtB a) (hr:z1F a=true):Ct Tryz.prog 183 [atA a] [] (.tup [B8 (atW a),lv (.bool true)]) [] []:=by
 obtain⟨o,v⟩:=a
 obtain⟨h1,h2,h3⟩:=h
 dsimp only at h1 h2 h3
 have hs:=z60 v 0 (Nat.zero_le _) h2 h3
 have hg:=z8T o h1
 unfold z1F z65 at hr
 simp only[Bool.and_eq_true,decide_eq_true_eq] at hr
 obtain⟨ho,hz,h1l⟩:=hr
 have hwo:=zjl o ho
 have hf:=z4n 16
 have hco:=z3N ho
 have hwl:=z0s (ofT 6) (z0v (z0Y o))
 have e2:atW (o,v)=z05 (ofT 16) (z05 (ofT 6) (z0v (z0Y o))++v):=by unfold atW z1o; rw[if_pos ho]
 have hq:=z1R (ofT 16) (z05 (ofT 6) (z0v (z0Y o))++v) (by decide) (by rw[List.length_append]; omega)
 rw[e2]
 rw[ho] at hg
 rw[hz] at hs
 have hl6:(z05 (ofT 6) (z0v (z0Y o))).length≤1000:=by omega
 generalize z05 (ofT 16) (z05 (ofT 6) (z0v (z0Y o))++v)=Y at*
 generalize z05 (ofT 6) (z0v (z0Y o))=X at*
 generalize (z12 v 0).1=rs at*
 have h1:(z2a rs).length=1:=by simp[h1l]
 generalize z2a rs=R at*
 refine z00 Tryz.func183 rfl rfl rfl rfl rfl (fun E hn hb=>?_)
 repeat refine nx ?_
 exact rt1 []
theorem zhl (a:AtT) (h:AtB a) (hr:z1F a=false):Ct Tryz.prog 183 [atA a] [] (.tup [B8 [],lv (.bool false)]) [] []:=by
 obtain⟨o,v⟩:=a
 obtain⟨h1,h2,h3⟩:=h
 dsimp only at h1 h2 h3
 have hs:=z60 v 0 (Nat.zero_le _) h2 h3
 have hg:=z8T o h1
 unfold z1F z65 at hr
 dsimp only at hr
 generalize z12 v 0=W at*
 obtain⟨rs,e⟩:=W
 dsimp only at*
 generalize z0W o=G at*
 by_cases he:e=0
 ·subst he
  by_cases hn1:rs.length=1
  ·rw[hn1] at hr
   obtain rfl:G=false:=by simpa using hr
   refine z00 Tryz.func183 rfl rfl rfl rfl rfl (fun E hn hb=>?_)
   repeat refine nx ?_
   exact rtU []
  ·refine z00 Tryz.func183 rfl rfl rfl rfl rfl (fun E hn hb=>?_)
   repeat refine nx ?_
   exact rtU []
 ·refine z00 Tryz.func183 rfl rfl rfl rfl rfl (fun E hn hb=>?_)
  repeat refine nx ?_
  exact rtU []
abbrev rdN:Av:= .agg [.ptr 0 0]
theorem zl6 {l:List Int} {p:Nat} {t:z0h} (h:¬ (z0r l p t).2.2=0):(z0r l p t).1= []∧(z0r l p t).2.1=p:=by
 unfold z0r z0U at h ⊢
 by_cases h2:(z23 l p t).2.2=0
 ·rw[if_pos h2] at h; exact absurd h2 h
 ·rw[if_neg h2]; exact⟨rfl,rfl⟩
theorem zl7 (y:List Int) (q:Nat) (hq:q≤y.length) (hw:WfB y):q≤(z4P y q).2.1∧(z4P y q).2.1≤y.length:=by
 have hle:=z1k y q hq
 have hpos:=z2B y q hw
 unfold z4P
 generalize z0d y q=R at*
 obtain⟨⟨t,n⟩,r,e⟩:=R
 dsimp only at*
 split
 ·split
  ·exact hle
  ·dsimp only
   omega
 ·exact hle
theorem zjm (y:List Int) (q:Nat) (hq:q≤y.length) (hl:y.length≤16000000) (hw:WfB y):Ct Tryz.prog 234 [rdN] [z04 y q] (.tup [B8 (z4P y q).1,lv (.int .i64 (z4P y q).2.2)]) [z04 y (z4P y q).2.1] []:=by
 have hr:=z5g y q hq hl hw
 have hle:=z1k y q hq
 have hpos:=z2B y q hw
 have hat:=z1z y q
 unfold z4P
 generalize z0d y q=F at*
 obtain⟨⟨⟨t1,t2,t3⟩,n⟩,r,e⟩:=F
 dsimp only at*
 by_cases he:e=0
 ·subst he
  rw[if_pos rfl]
  have hat2:=z1z y r
  have hlf:=z0S y r hle.2 (by omega)
  have hbk:=z1L y r q hle.1 (by omega)
  by_cases hN:(y.length:Int) -r<n
  ·rw[if_pos hN]
   refine z00 Tryz.func234 rfl rfl rfl rfl rfl (fun E hn hb=>?_)
   repeat refine nx ?_
   exact rtU []
  ·rw[if_neg hN]
   obtain⟨N,rfl⟩:∃ N:Nat,n=N:=⟨n.toNat,by omega⟩
   rw[Int.toNat_natCast]
   have htk:=z6A y q (r -q+N) (by omega) hl
   rw[show((r -q+N:Nat):Int)=((r:Int) -(q:Int))+(N:Int) by omega,show q+(r -q+N)=r+N by omega] at htk
   refine z00 Tryz.func234 rfl rfl rfl rfl rfl (fun E hn hb=>?_)
   repeat refine nx ?_
   exact rt1 []
 ·rw[if_neg he]
  refine z00 Tryz.func234 rfl rfl rfl rfl rfl (fun E hn hb=>?_)
  repeat refine nx ?_
  exact rtU []
abbrev atE (a:AtT) (e:Int):Av:= .tup [atA a,lv (.int .i64 e)]
theorem za0:z3q (.agg [.lf (.v (.slice none 0 0)),.lf (.v (.slice none 0 0))]) (atA ([],[])):=by
 exact⟨.inr ⟨rfl,.inl ⟨_,rfl⟩⟩,.inr ⟨rfl,.inl ⟨_,rfl⟩⟩,trivial⟩
set_option maxHeartbeats 4000000 in
theorem zl8 (l:List Int) (p:Nat) (hp:p≤l.length) (hl:l.length≤16000000) (hw:WfB l):Ct Tryz.prog 219 [rdN] [z04 l p] (atE (z39 l p).1 (z39 l p).2.2) [z04 l (z39 l p).2.1] []:=by
 have hho:=z1d 16
 have hop:=z26 l p (ofT 16) hp hl hw
 have hoe:=z2s l p (ofT 16) hp hl hw
 have hmem:=z0H l p (ofT 16)
 have hst:= @zl6 l p (ofT 16)
 unfold z39
 generalize z0r l p (ofT 16)=X at*
 obtain⟨x,q,e⟩:=X
 dsimp only at*
 by_cases he:e=0
 ·subst he
  have hop:=hop rfl
  rw[if_pos rfl]
  have hwx:WfB x:=fun y hy=>hw y (hmem.2 y hy)
  have h1:=ziC x 0 (Nat.zero_le _) (by omega) hwx
  have h1l:=zdZ x 0 (Nat.zero_le _)
  unfold z7w
  generalize z4A x 0=O at*
  obtain⟨o,p1,f1⟩:=O
  dsimp only at*
  by_cases hf1:f1=0
  ·subst hf1
   rw[if_pos rfl]
   have h2:=zjm x p1 h1l.2 (by omega) hwx
   have h2l:=zl7 x p1 h1l.2 hwx
   generalize z4P x p1=V at*
   obtain⟨v,p2,f2⟩:=V
   dsimp only at*
   by_cases hf2:f2=0
   ·subst hf2
    rw[if_pos rfl]
    have h4:=z0S x p2 h2l.2 (by omega)
    by_cases hlt:p2<x.length
    ·rw[if_pos hlt]
     refine z00 Tryz.func219 rfl rfl rfl rfl rfl (fun E hn hb=>?_)
     repeat refine nxw ?_
     refine z6x [76] [(3,0),(3,76)] ?_
     repeat (first | refine nx ?_ | refine z7h [0] hn hop ?_)
     refine rtU [] (hu:=?_)
     exact⟨za0,.inl rfl,trivial⟩
    ·rw[if_neg hlt]
     refine z00 Tryz.func219 rfl rfl rfl rfl rfl (fun E hn hb=>?_)
     repeat refine nxw ?_
     refine z6x [76] [(3,0),(3,76)] ?_
     repeat (first | refine nx ?_ | refine z7h [0] hn hop ?_)
     exact rt1 []
   ·rw[if_neg hf2]
    refine z00 Tryz.func219 rfl rfl rfl rfl rfl (fun E hn hb=>?_)
    repeat refine nxw ?_
    refine z6x [76] [(3,0),(3,76)] ?_
    repeat (first | refine nx ?_ | refine z7h [0] hn hop ?_)
    refine rtU [] (hu:=?_)
    exact⟨za0,.inl rfl,trivial⟩
  ·rw[if_neg hf1]
   refine z00 Tryz.func219 rfl rfl rfl rfl rfl (fun E hn hb=>?_)
   repeat refine nxw ?_
   refine z6x [76] [(3,0),(3,76)] ?_
   repeat (first | refine nx ?_ | refine z7h [0] hn hop ?_)
   refine rtU [] (hu:=?_)
   exact⟨za0,.inl rfl,trivial⟩
 ·have hoe:=hoe he
  obtain⟨rfl,rfl⟩:=hst he
  rw[if_neg he]
  refine z00 Tryz.func219 rfl rfl rfl rfl rfl (fun E hn hb=>?_)
  repeat refine nxw ?_
  refine z6x [] [(3,0)] ?_
  repeat (first | refine nx ?_ | refine z7h [0] hn hoe ?_)
  refine rtU [] (hu:=?_)
  exact⟨za0,.inl rfl,trivial⟩
end Go.Proofs.YtaagjnlkinojcaaGreat
namespace Go.Proofs.YtaagjnlkinojcaaGreat
set_option linter.unusedSimpArgs false
set_option linter.unusedVariables false
open Go Go.Sx
set_option maxRecDepth 10000
abbrev GnT:Type:=Int×List Int×List (List AtT)
abbrev gn0:GnT:=(0,[],[])
def z1K (k:Int):Bool:=decide (k=0)||decide (k=3)||decide (k=4)||decide (k=5)
def z3A (b:List Int):Bool:=decide (0<b.length)&&b.all fun x=>decide (x≤127)
def z4q (b:List Int):Bool:=decide ((z12 b 0).2=0)&&decide (0<(z12 b 0).1.length)
def z4d (k:Int) (b:List Int):Bool:=
 if k=1∨k=2∨k=6 then z3A b else if k=7 then decide (b.length=4)||decide (b.length=16) else if k=8 then decide ((z2J b).2=0)
  else if k=0∨k=3∨k=5 then z4q b else false
def z0G (g:GnT):Bool:=if g.1=4 then decide (g.2.1.length=0)&&z15 g.2.2 else decide (g.2.2.length=0)&&z4d g.1 g.2.1
def z0l (g:GnT):List Int:=z05 (2,g.1,z1K g.1) (if g.1=4 then z1S g.2.2 else g.2.1)
def z4J (b:List Int):List (List AtT)×Int:=
 let r:=z4Q b 0
 if r.2.2=0 then(if r.2.1<b.length then([],7) else(r.1,0)) else([],r.2.2)
def z6z (k:Int) (b:List Int):GnT×Int:=
 if k=4 then(let m:=z4J b; if m.2=0 then(if z0G (4,[],m.1)=true then((4,[],m.1),0) else(gn0,6)) else(gn0,m.2))
 else if z0G (k,b,[])=true then((k,b,[]),0) else(gn0,6)
def z2z (l:List Int) (p:Nat):GnT×Nat×Int:=
 let r:=z0d l p
 if r.2.2=0 then
  (if r.1.1.1≠2∨8<r.1.1.2.1∨r.1.1.2.2≠z1K r.1.1.2.1 then(gn0,r.2.1,4)
    else if(l.length:Int) -(r.2.1:Int)<r.1.2 then(gn0,r.2.1,3)
    else((z6z r.1.1.2.1 ((l.drop r.2.1).take r.1.2.toNat)).1,r.2.1+r.1.2.toNat,(z6z r.1.1.2.1 ((l.drop r.2.1).take r.1.2.toNat)).2))
 else(gn0,r.2.1,r.2.2)
def z3b (l:List Int):Nat→Nat→List GnT→List GnT×Nat×Int
 | 0,p,_=>([],p,0)
 | f+1,p,acc=>if p<l.length then(if acc.length=10000 then([],p,2) else let r:=z2z l p; if r.2.2=0 then z3b l f r.2.1 (acc++ [r.1]) else([],r.2.1,r.2.2)) else(acc,p,0)
def z16 (l:List Int):List GnT×Nat×Int:=if l.length=0 then([],0,6) else z3b l (l.length+1) 0 []
theorem zbr {b:List Int} {n:List (List AtT)} (hw:WfB b) (h:z4J b=(n,0)):z15 n=true∧b=z1S n:=by
 unfold z4J at h
 generalize hX:z4Q b 0=X at*
 obtain⟨m,q,e⟩:=X
 dsimp only at h
 by_cases he:e=0
 ·subst he
  rw[if_pos rfl] at h
  obtain⟨b1,b2⟩:=zhk hw hX
  by_cases hq:q<b.length
  ·rw[if_pos hq] at h; simp at h
  ·rw[if_neg hq] at h
   simp only[Prod.mk.injEq] at h
   obtain⟨rfl,_⟩:=h
   refine⟨b1,?_⟩
   rw[List.drop_eq_nil_of_le (by omega:b.length≤q),List.append_nil] at b2
   simpa using b2
 ·rw[if_neg he] at h
  simp only[Prod.mk.injEq] at h
  exact absurd h.2 he
theorem zhm {k:Int} {b:List Int} {g:GnT} (hw:WfB b) (h:z6z k b=(g,0)):z0G g=true∧g.1=k∧(if g.1=4 then z1S g.2.2 else g.2.1)=b:=by
 unfold z6z at h
 by_cases hk:k=4
 ·rw[if_pos hk] at h
  generalize hM:z4J b=M at*
  obtain⟨m,e⟩:=M
  dsimp only at h
  by_cases he:e=0
  ·subst he
   rw[if_pos rfl] at h
   by_cases ho:z0G (4,[],m)=true
   ·rw[if_pos ho] at h
    simp only[Prod.mk.injEq] at h
    obtain⟨rfl,_⟩:=h
    refine⟨ho,hk.symm,?_⟩
    rw[if_pos rfl]
    exact(zbr hw hM).2.symm
   ·rw[if_neg ho] at h; simp at h
  ·rw[if_neg he] at h
   simp only[Prod.mk.injEq] at h
   exact absurd h.2 he
 ·rw[if_neg hk] at h
  by_cases ho:z0G (k,b,[])=true
  ·rw[if_pos ho] at h
   simp only[Prod.mk.injEq] at h
   obtain⟨rfl,_⟩:=h
   exact⟨ho,rfl,if_neg hk⟩
  ·rw[if_neg ho] at h; simp at h
theorem zbs {l:List Int} {g:GnT} {p q:Nat} (hw:WfB l) (h:z2z l p=(g,q,0)):z0G g=true∧l.drop p=z0l g++l.drop q:=by
 unfold z2z at h
 generalize hR:z0d l p=R at*
 obtain⟨⟨⟨c,k,m⟩,n⟩,s,e⟩:=R
 dsimp only at h
 by_cases he:e=0
 ·subst he
  rw[if_pos rfl] at h
  by_cases h1:c≠2∨8<k∨m≠z1K k
  ·rw[if_pos h1] at h; simp at h
  ·rw[if_neg h1] at h
   by_cases h2:(l.length:Int) -(s:Int)<n
   ·rw[if_pos h2] at h; simp at h
   ·rw[if_neg h2] at h
    generalize hB:z6z k ((l.drop s).take n.toNat)=B at*
    obtain⟨g1,f⟩:=B
    simp only[Prod.mk.injEq] at h
    obtain⟨rfl,rfl,rfl⟩:=h
    obtain⟨a1,a2,a3,a4⟩:=z6d hw hR
    obtain⟨b1,b2,b3⟩:=zhm (fun z hz=>hw z (List.mem_of_mem_drop (List.mem_of_mem_take hz))) hB
    refine⟨b1,?_⟩
    simp only[not_or,Decidable.not_not] at h1
    obtain⟨rfl,_,rfl⟩:=h1
    have hlen:((l.drop s).take n.toNat).length=n.toNat:=by simp; omega
    unfold z0l
    rw[b3,b2]
    unfold z05
    rw[hlen,a4]
    simp only[List.append_assoc]
    rw[←List.drop_drop,List.take_append_drop]
 ·rw[if_neg he] at h
  simp only[Prod.mk.injEq] at h
  exact absurd h.2.2 he
def z1g (l:List GnT):Bool:=decide (0<l.length)&&decide (l.length≤10000)&&l.all z0G
theorem z6J (l:List Int) (p:Nat) (hp:p≤l.length):p≤(z2z l p).2.1∧(z2z l p).2.1≤l.length:=by
 have h:=z1k l p hp
 unfold z2z
 generalize z0d l p=R at*
 obtain⟨⟨⟨c,k,m⟩,n⟩,s,e⟩:=R
 dsimp only at*
 split
 ·split
  ·exact h
  ·split
   ·exact h
   ·dsimp only
    omega
 ·exact h
theorem zd2 (l:List Int):∀(f p:Nat) (acc:List GnT),p≤l.length→p≤(z3b l f p acc).2.1∧(z3b l f p acc).2.1≤l.length
 | 0,p,_,hp=>⟨Nat.le_refl _,hp⟩
 | f+1,p,acc,hp=>by
   have h:=z6J l p hp
   rw[z3b]
   split
   ·split
    ·exact⟨Nat.le_refl _,hp⟩
    ·dsimp only
     split
     ·have:=zd2 l f (z2z l p).2.1 (acc++ [(z2z l p).1]) h.2
      omega
     ·exact h
   ·exact⟨Nat.le_refl _,hp⟩
theorem za1 {x:List Int} (hw:WfB x):∀(f p:Nat) (acc r:List GnT) (s:Nat),p≤x.length→x.length -p<f→acc.all z0G=true→acc.length≤10000→x.take p=acc.flatMap z0l→z3b x f p acc=(r,s,0)→r.all z0G=true∧r.length≤10000∧s=x.length∧x=r.flatMap z0l
 | 0,p,acc,r,s,_,h,_,_,_,_=>by omega
 | f+1,p,acc,r,s,hp,hf,ha,hl,ht,h=>by
   rw[z3b] at h
   by_cases h1:p<x.length
   ·rw[if_pos h1] at h
    by_cases h2:acc.length=10000
    ·rw[if_pos h2] at h; simp at h
    ·rw[if_neg h2] at h
     have hle:=z6J x p hp
     generalize hA:z2z x p=A at*
     obtain⟨a,q,e⟩:=A
     dsimp only at*
     by_cases he:e=0
     ·subst he
      rw[if_pos rfl] at h
      obtain⟨b1,b2⟩:=zbs hw hA
      obtain⟨c1,c2⟩:=z9j hle.2 hp b2
      have hpos:0<(z0l a).length:=z1n _ _
      refine za1 hw f q (acc++ [a]) r s hle.2 (by omega) ?_ (by simp; omega) ?_ h
      ·rw[List.all_append,ha]; simp[b1]
      ·rw[c2,ht]; simp
     ·rw[if_neg he] at h
      simp only[Prod.mk.injEq] at h
      exact absurd h.2.2 he
   ·rw[if_neg h1] at h
    simp only[Prod.mk.injEq] at h
    obtain⟨rfl,rfl,_⟩:=h
    refine⟨ha,hl,by omega,?_⟩
    rw[←ht,List.take_of_length_le (by omega)]
theorem za2 {x:List Int} {r:List GnT} {s:Nat} (hw:WfB x) (h:z16 x=(r,s,0)):z1g r=true∧s=x.length∧x=r.flatMap z0l:=by
 unfold z16 at h
 by_cases h0:x.length=0
 ·rw[if_pos h0] at h; simp at h
 ·rw[if_neg h0] at h
  obtain⟨a1,a2,a3,a4⟩:=za1 hw (x.length+1) 0 [] r s (Nat.zero_le _) (by omega) rfl (by simp) (by simp) h
  refine⟨?_,a3,a4⟩
  have:0<r.length:=by
   cases r with
   | nil=>simp at a4; subst a4; simp at h0
   | cons=>simp
  unfold z1g
  simp[this,a1,a2]
end Go.Proofs.YtaagjnlkinojcaaGreat

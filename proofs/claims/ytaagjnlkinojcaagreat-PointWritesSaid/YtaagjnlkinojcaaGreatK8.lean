/-
  Chapter 16: the document writes names and places. The conditions: rows that a machine can hold.
-/
import Derived.Test.YtaagjnlkinojcaaGreatJ5
import Derived.Test.YtaagjnlkinojcaaGreatJ4
import Derived.Test.YtaagjnlkinojcaaGreatE8
import Derived.Test.YtaagjnlkinojcaaGreatQ24
import Derived.Test.YtaagjnlkinojcaaGreatQ28
import Derived.Test.YtaagjnlkinojcaaGreatQ14
import Derived.Test.YtaagjnlkinojcaaGreatQ20
namespace Go.Proofs.YtaagjnlkinojcaaGreat
set_option linter.unusedSimpArgs false
set_option linter.unusedVariables false
open Go Go.Sx
set_option maxRecDepth 10000
theorem zby {x:List Int}:∀(ys:List PtT) (f p:Nat) (acc:List PtT),p≤x.length→x.length -p<f→(∀ y ∈ ys,z0A y=true∧PtH y)→acc.length+ys.length≤10000→x.drop p=ys.flatMap z0o→z2q x f p acc=(acc++ys,0)
 | [],0,p,acc,_,hk,_,_,_=>by omega
 | [],f+1,p,acc,hp,hk,_,_,hd=>by
   have:x.length≤p:=by simpa using hd
   rw[z2q,if_neg (by omega),List.append_nil]
 | y::ys,0,p,acc,_,hk,_,_,_=>by omega
 | y::ys,f+1,p,acc,hp,hk,hys,hn,hd=>by
   obtain⟨h1,h2⟩:=hys y (List.mem_cons_self ..)
   have hpos:0<(z0o y).length:=z1n _ _
   rw[List.flatMap_cons] at hd
   have hdl:=congrArg List.length hd
   rw[List.length_drop,List.length_append] at hdl
   have e:x=x.take p++(z0o y++ys.flatMap z0o):=by rw[←hd,List.take_append_drop]
   have hf:=zdx (x.take p) (ys.flatMap z0o) h1 h2
   rw[←e,show(x.take p).length=p by rw[List.length_take]; omega] at hf
   rw[List.length_cons] at hn
   rw[z2q,if_pos (by omega),if_neg (by omega),hf]
   dsimp only
   rw[if_pos rfl,zby ys f (p+(z0o y).length) (acc++ [y]) (by omega) (by omega) (fun z hz=>hys z (List.mem_cons_of_mem _ hz)) (by rw[List.length_append,List.length_singleton]; omega) (by rw[←List.drop_drop,hd,List.drop_left])]
   rw[List.append_assoc]
   rfl
def z2j (l:List PtT):List Int:=z05 (ofT 16) (l.flatMap z0o)
theorem zhw {l:List PtT} (h0:0<l.length) (hn:l.length≤10000) (h:∀ y ∈ l,z0A y=true∧PtH y) (hl:(l.flatMap z0o).length≤16777216):z2P (z2j l) 0=(l,(z2j l).length,0):=by
 have h1:=z3y [] (l.flatMap z0o) [] (ofT 16) (by decide) hl
 rw[List.nil_append,List.append_nil,List.length_nil,Nat.zero_add] at h1
 have hpos:¬ (l.flatMap z0o).length=0:=by
  match l,h0 with
  | y::l,_=>
    have:0<(z0o y).length:=z1n _ _
    rw[List.flatMap_cons,List.length_append]
    omega
 have h2:=zby (x:=l.flatMap z0o) l ((l.flatMap z0o).length+1) 0 [] (Nat.zero_le _) (by omega) h (by simpa using hn) List.drop_zero
 unfold z2P z2j
 rw[h1]
 dsimp only
 rw[if_pos rfl,if_neg hpos,h2]
 rfl
theorem za8 {x:List Int} (hw:WfB x) (hl:x.length≤16000000):∀(f p:Nat) (acc r:List PtT),p≤x.length→x.length -p<f→z2q x f p acc=(r,0)→∃ ys,r=acc++ys∧x.drop p=ys.flatMap z0o∧(acc.length≤10000→r.length≤10000)∧(p<x.length→ys≠ [])
 | 0,p,acc,r,_,hk,_=>by omega
 | f+1,p,acc,r,hp,hk,h=>by
   rw[z2q] at h
   by_cases hlt:p<x.length
   ·rw[if_pos hlt] at h
    by_cases h6:acc.length=10000
    ·rw[if_pos h6] at h; simp at h
    ·rw[if_neg h6] at h
     dsimp only at h
     have hle:=z6K x p hp
     have hbk:= @zbG x (z1t x p).1 p (z1t x p).2.1 hw hl
     generalize hS:z1t x p=S at*
     obtain⟨y,q,e⟩:=S
     dsimp only at*
     by_cases he:e=0
     ·subst he
      rw[if_pos rfl] at h
      have hb:=hbk rfl
      have hbl:=congrArg List.length hb
      have hpos:0<(z0o y).length:=z1n _ _
      rw[List.length_append,List.length_drop,List.length_drop] at hbl
      obtain⟨ys,r1,r2,r3,_⟩:=za8 hw hl f q (acc++ [y]) r hle.2 (by omega) h
      refine⟨y::ys,by rw[r1]; simp,by rw[hb,r2]; rfl,fun ha=>r3 (by rw[List.length_append,List.length_singleton]; omega),fun _=>List.cons_ne_nil _ _⟩
     ·rw[if_neg he] at h
      simp only[Prod.mk.injEq] at h
      exact absurd h.2 he
   ·rw[if_neg hlt] at h
    simp only[Prod.mk.injEq] at h
    obtain⟨rfl,_⟩:=h
    exact⟨[],by rw[List.append_nil],by rw[List.drop_eq_nil_of_le (by omega)]; rfl,fun h=>h,fun h=>absurd h hlt⟩
theorem zfU {x:List Int} {l:List PtT} {a q:Nat} (hw:WfB x) (hl:x.length≤16000000) (h:z2P x a=(l,q,0)):0<l.length∧l.length≤10000∧x.drop a=z2j l++x.drop q:=by
 have hm:=z0H x a (ofT 16)
 unfold z2P at h
 generalize hX:z0r x a (ofT 16)=X at*
 obtain⟨y,s,e⟩:=X
 dsimp only at*
 split at h
 ·rename_i e1
  subst e1
  split at h
  ·simp at h
  ·rename_i h0
   generalize hR:z2q y (y.length+1) 0 []=R at*
   obtain⟨r,f⟩:=R
   dsimp only at h
   by_cases hf:f=0
   ·subst hf
    rw[if_pos rfl] at h
    simp only[Prod.mk.injEq] at h
    obtain⟨rfl,rfl,_⟩:=h
    obtain⟨_,b2⟩:=z2Y hw hX
    obtain⟨ys,r1,r2,r3,r4⟩:=za8 (x:=y) (fun z hz=>hw z (hm.2 z hz)) (by omega) _ 0 [] _ (Nat.zero_le _) (by omega) hR
    rw[List.nil_append] at r1
    subst r1
    rw[List.drop_zero] at r2
    refine⟨List.length_pos_iff.2 (r4 (by omega)),r3 (Nat.zero_le _),?_⟩
    unfold z2j
    rw[←r2]
    exact b2
   ·rw[if_neg hf] at h
    simp only[Prod.mk.injEq] at h
    exact absurd h.2.2 hf
 ·simp only[Prod.mk.injEq] at h
  exact absurd h.2.2 ‹_›
def z89 (s:ScT):List Int:=z18 s.1++(z2p 1 s.2.1.1++(z2p 2 s.2.1.2.1++(z1V 3 s.2.2++(z2p 4 s.2.1.2.2.1++z2p 5 s.2.1.2.2.2))))
def z7q (s:ScT):List Int:=z05 (ofT 16) (z89 s)
abbrev sc0:ScT:=(none,(false,false,false,false),[])
def z8a (x:List Int):ScT×Int:=
 let a:=z0i none x 0 (2,0,true) z3t
 if a.2.2=0 then
  let b:=z0i false x a.2.1 (2,1,false) z1E
  if b.2.2=0 then
   let c:=z0i false x b.2.1 (2,2,false) z1E
   if c.2.2=0 then
    let d:=z0i [] x c.2.1 (2,3,false) z1p
    if d.2.2=0 then
     let e:=z0i false x d.2.1 (2,4,false) z1E
     if e.2.2=0 then
      let f:=z0i false x e.2.1 (2,5,false) z1E
      if f.2.2=0 then(if f.2.1<x.length then(sc0,7) else if z4M (a.1,(b.1,c.1,e.1,f.1),d.1)=true then((a.1,(b.1,c.1,e.1,f.1),d.1),0) else(sc0,6)) else(sc0,f.2.2)
     else(sc0,e.2.2)
    else(sc0,d.2.2)
   else(sc0,c.2.2)
  else(sc0,b.2.2)
 else(sc0,a.2.2)
def z3x (l:List Int) (p:Nat):ScT×Nat×Int:=
 let r:=z0r l p (ofT 16)
 if r.2.2=0 then(if(z8a r.1).2=0 then((z8a r.1).1,r.2.1,0) else(sc0,p,(z8a r.1).2)) else(sc0,p,r.2.2)
theorem zjz {s:ScT} (h:z4M s=true):z3J s.1=true∧z0T s.2.2=true:=by
 unfold z4M at h
 simp only[Bool.and_eq_true] at h
 exact⟨h.1.1.1,h.1.1.2⟩
theorem zhx {x:List Int} {s:ScT} (hw:WfB x) (hl:x.length≤16000000) (h:z8a x=(s,0)):x=z89 s∧z4M s=true:=by
 unfold z8a at h
 dsimp only at h
 generalize hA:z0i none x 0 (2,0,true) z3t=A at*
 obtain⟨a,pa,ea⟩:=A
 dsimp only at h
 by_cases e1:ea=0
 case neg=>rw[if_neg e1] at h; simp only[Prod.mk.injEq] at h; exact absurd h.2 e1
 subst e1
 rw[if_pos rfl] at h
 generalize hB:z0i false x pa (2,1,false) z1E=B at*
 obtain⟨b,pb,eb⟩:=B
 dsimp only at h
 by_cases e1:eb=0
 case neg=>rw[if_neg e1] at h; simp only[Prod.mk.injEq] at h; exact absurd h.2 e1
 subst e1
 rw[if_pos rfl] at h
 generalize hC:z0i false x pb (2,2,false) z1E=C at*
 obtain⟨c,pc,ec⟩:=C
 dsimp only at h
 by_cases e1:ec=0
 case neg=>rw[if_neg e1] at h; simp only[Prod.mk.injEq] at h; exact absurd h.2 e1
 subst e1
 rw[if_pos rfl] at h
 generalize hD:z0i [] x pc (2,3,false) z1p=D at*
 obtain⟨d,pd,ed⟩:=D
 dsimp only at h
 by_cases e1:ed=0
 case neg=>rw[if_neg e1] at h; simp only[Prod.mk.injEq] at h; exact absurd h.2 e1
 subst e1
 rw[if_pos rfl] at h
 generalize hE:z0i false x pd (2,4,false) z1E=E at*
 obtain⟨e,pe,ee⟩:=E
 dsimp only at h
 by_cases e1:ee=0
 case neg=>rw[if_neg e1] at h; simp only[Prod.mk.injEq] at h; exact absurd h.2 e1
 subst e1
 rw[if_pos rfl] at h
 generalize hF:z0i false x pe (2,5,false) z1E=F at*
 obtain⟨f,pf,ef⟩:=F
 dsimp only at h
 by_cases e1:ef=0
 case neg=>rw[if_neg e1] at h; simp only[Prod.mk.injEq] at h; exact absurd h.2 e1
 subst e1
 rw[if_pos rfl] at h
 by_cases hlt:pf<x.length
 case pos=>rw[if_pos hlt] at h; simp at h
 rw[if_neg hlt] at h
 by_cases hok:z4M (a,(b,c,e,f),d)=true
 case neg=>rw[if_neg hok] at h; simp at h
 rw[if_pos hok] at h
 simp only[Prod.mk.injEq] at h
 obtain⟨rfl,_⟩:=h
 obtain⟨_,d1⟩:=zdy hw hl hA
 have d2:=z7u hw hB
 have d3:=z7u hw hC
 obtain⟨_,d4⟩:=zdz hw hD
 have d5:=z7u hw hE
 have d6:=z7u hw hF
 rw[List.drop_zero] at d1
 refine⟨?_,hok⟩
 rw[d1,d2,d3,d4,d5,d6,List.drop_eq_nil_of_le (by omega),List.append_nil]
 rfl
theorem zhy {x:List Int} {s:ScT} {a q:Nat} (hw:WfB x) (hl:x.length≤16000000) (h:z3x x a=(s,q,0)):x.drop a=z7q s++x.drop q∧z4M s=true:=by
 have hm:=z0H x a (ofT 16)
 unfold z3x at h
 generalize hX:z0r x a (ofT 16)=X at*
 obtain⟨y,t,e⟩:=X
 dsimp only at*
 split at h
 ·rename_i e1
  subst e1
  split at h
  ·rename_i e2
   simp only[Prod.mk.injEq] at h
   obtain⟨rfl,rfl,_⟩:=h
   obtain⟨_,b2⟩:=z2Y hw hX
   obtain⟨q1,q2⟩:=zhx (x:=y) (s:=(z8a y).1) (fun z hz=>hw z (hm.2 z hz)) (by omega) (by rw[←e2])
   unfold z7q
   rw[←q1]
   exact⟨b2,q2⟩
  ·simp only[Prod.mk.injEq] at h
   exact absurd h.2.2 ‹_›
 ·simp only[Prod.mk.injEq] at h
  exact absurd h.2.2 ‹_›
end Go.Proofs.YtaagjnlkinojcaaGreat
namespace Go.Proofs.YtaagjnlkinojcaaGreat
set_option linter.unusedSimpArgs false
set_option linter.unusedVariables false
open Go.Sx
set_option maxRecDepth 10000
def prC (n m:List (List AtT)):Nat→List (List AtT)
 | 0=> []
 | 1=>n
 | _=>n++m
structure WhF (w:WhT):Prop where
 h:z1g w.1=true→∀ g ∈ w.1,GnH g
 l:z1g w.1=true→(w.1.flatMap z0l).length≤12000000∧WfB (w.1.flatMap z0l)
end Go.Proofs.YtaagjnlkinojcaaGreat
namespace Go.Proofs.YtaagjnlkinojcaaGreat
set_option linter.unusedSimpArgs false
set_option linter.unusedVariables false
open Go Go.Sx
set_option maxRecDepth 10000
theorem z8J {α:Type} (f:α→List Int) (l:List α) (h:∀ x ∈ l,WfB (f x)):WfB (l.flatMap f):=fun y hy=>by
 obtain⟨x,hx,hy⟩:=List.mem_flatMap.1 hy
 exact h x hx y hy
theorem zhz {a:AtT} (h:z1F a=true) (hw:WfB a.2):WfB (atW a):=by
 have h1:=h
 unfold z1F at h1
 rw[Bool.and_eq_true] at h1
 have e:(z1o a.1).1=z05 (ofT 6) (z0v (z0Y a.1)):=by unfold z1o; rw[if_pos h1.1]
 unfold atW
 rw[e]
 exact z1I _ _ (by decide) (z5Q (z1I _ _ (by decide) (zgt _)) hw)
theorem zjA {r:List AtT} (h:z0C r=true) (hw:∀ a ∈ r,WfB a.2):WfB (z0g r):=by
 unfold z0C at h
 simp only[Bool.and_eq_true,decide_eq_true_iff,List.all_eq_true] at h
 exact z1I _ _ (by decide) (z8J _ _ fun a ha=>zhz (h.1.2 a ha) (hw a ha))
theorem zjB {n:List (List AtT)} (h:z15 n=true) (hw:∀ r ∈ n,∀ a ∈ r,WfB a.2):WfB (z1S n):=
 z1I _ _ (by decide) (z8J _ _ fun r hr=>zjA ((z7t h).2 r hr) (hw r hr))
theorem zeE {g:GnT} (h:z0G g=true) (hw:WfB g.2.1) (hn:∀ r ∈ g.2.2,∀ a ∈ r,WfB a.2):WfB (z0l g):=by
 obtain⟨h1,h2,h3,h4⟩:=z51 h
 refine z1I _ _ (zeu h1 h2) ?_
 by_cases hk:g.1=4
 ·rw[if_pos hk]
  have hno:z15 g.2.2=true:=by
   unfold z0G at h
   rw[if_pos hk,Bool.and_eq_true] at h
   exact h.2
  exact zjB hno hn
 ·rw[if_neg hk]
  exact hw
theorem zeF {l:List Int} {n:Int} (h:WfB l):WfB (zaF n l):=fun x hx=>h x (List.mem_of_mem_take hx)
theorem z9m (l:List Int) (n:Nat):(zaF (n:Int) l).length≤n:=by
 unfold zaF
 rw[List.length_take]
 omega
theorem zrO {a:AtT} (h:AtI a):AtB (atT a)∧(atT a).2.length≤200:=by
 have h1:=z9m a.1 40
 have h2:=z9m a.2 200
 exact⟨⟨Nat.le_trans h1 (by decide),Nat.le_trans h2 (by decide),zeF h.w⟩,h2⟩
theorem zfV {r:List AtT} (h:StI r):(stT r).length≤20∧∀ a ∈ stT r,AtB a∧a.2.length≤200:=by
 unfold stT
 refine⟨by rw[List.length_map,List.length_take]; omega,fun a ha=>?_⟩
 obtain⟨b,hb,rfl⟩:=List.mem_map.1 ha
 exact zrO (h.2 b (List.mem_of_mem_take hb))
theorem zrP {n:List (List AtT)} (h:NmI n):(nmT n).length≤70∧NmB (nmT n)∧∀ r ∈ nmT n,∀ a ∈ r,a.2.length≤200:=by
 have hl:(nmT n).length≤70:=by unfold nmT; rw[List.length_map,List.length_take]; omega
 have key:∀ r ∈ nmT n,r.length≤20∧∀ a ∈ r,AtB a∧a.2.length≤200:=fun r hr=>by
  unfold nmT at hr
  obtain⟨s,hs,rfl⟩:=List.mem_map.1 hr
  exact zfV (h.2 s (List.mem_of_mem_take hs))
 exact⟨hl,⟨Nat.le_trans hl (by decide),fun r hr=>⟨Nat.le_trans (key r hr).1 (by decide),fun a ha=>((key r hr).2 a ha).1⟩⟩,fun r hr a ha=>((key r hr).2 a ha).2⟩
theorem zpV {g:GnT} (h:GnI g):GnB (z7s g)∧GnS (z7s g):=by
 have h1:=z9m g.2.1 300
 obtain⟨n1,n2,n3⟩:=zrP (zhL h.n)
 have h5:(nmT (zdp g.2.2)).length≤5:=by
  unfold nmT zdp
  rw[List.length_map,List.length_take,List.length_take]
  omega
 exact⟨⟨Nat.le_trans h1 (by decide),zeF h.w,n2⟩,⟨h1,h5,n3⟩⟩
theorem zdg {l:List GnT} (h:zg1 l):(z2L l).length≤20∧∀ g ∈ z2L l,GnB g∧GnS g:=by
 unfold z2L
 refine⟨by rw[List.length_map,List.length_take]; omega,fun g hg=>?_⟩
 obtain⟨b,hb,rfl⟩:=List.mem_map.1 hg
 exact zpV (h.2 b (List.mem_of_mem_take hb))
theorem zkj {g:GnT} (h:z0G g=true) (hb:GnB g) (hs:GnS g):GnH g:=
 ⟨hb.w,hb.l,fun r hr a ha=>⟨((hb.n.2 r hr).2 a ha).w,Nat.le_trans (hs.a r hr a ha) (by decide)⟩,Nat.le_trans (zeM h hs) (by decide)⟩
abbrev whU (w:WhT):WhT:=(z2L w.1,stT w.2)
theorem zkk {w:WhT} (h:WhI w):WhB (whU w)∧WhF (whU w):=by
 obtain⟨g1,g2⟩:=zdg h.g
 obtain⟨s1,s2⟩:=zfV h.s
 refine⟨⟨Nat.le_trans g1 (by decide),fun g hg=>(g2 g hg).1,Nat.le_trans s1 (by decide),fun a ha=>(s2 a ha).1⟩,⟨fun ho g hg=>?_,fun ho=>?_⟩⟩
 ·exact zkj ((z1P ho).2.2 g hg) (g2 g hg).1 (g2 g hg).2
 ·have hk:=(z1P ho).2.2
  have h1:=z9p hk g1 fun g hg=>(g2 g hg).2
  exact⟨Nat.le_trans h1 (by decide),z8J _ _ fun g hg=>zeE (hk g hg) (g2 g hg).1.w fun r hr a ha=>(((g2 g hg).1.n.2 r hr).2 a ha).w⟩
end Go.Proofs.YtaagjnlkinojcaaGreat
namespace Go.Proofs.YtaagjnlkinojcaaGreat
set_option linter.unusedSimpArgs false
set_option linter.unusedVariables false
open Go.Sx
set_option maxRecDepth 10000
theorem zfW (u:Int) (l:List Int) (hu:0≤u∧u≤7) (hl:l.length≤12000000):Ct Tryz.prog 153 [z4e u l] [] (B8 (u::l)) [] []:=by
 have hw:=(zec u).2 (by omega)
 refine z00 Tryz.func153 rfl rfl rfl rfl rfl (fun E hn hb=>?_)
 iterate 11 refine nx ?_
 try rw[hw]
 refine z1X rfl rfl rfl (by rw[hn]; rfl) (z0n Tryz.underlying28 rfl rfl) (z2R) (by exact vcs) ⟨by decide,rfl⟩ ?_
 repeat (refine nst ?_)
 refine z2I rfl rfl rfl rfl rfl rfl (by rw[hn]; rfl) (z0n Tryz.underlying28 rfl rfl) rfl rfl rfl rfl (by exact vcs) (by first | rfl |(simp; done) |(simp; omega)) ⟨by first |(simp; done) |(simp; omega) |(simp at*; omega),by decide⟩ ?_
 repeat refine nx ?_
 refine z31 2 ?_
 exact rt1 []
theorem zfX (k:Int) (l:List Int) (hk:0≤k∧k≤5) (h:z0T l=true):Ct Tryz.prog 95 [lv (.int .i64 k),I64 l] [] (B8 (z1V k l)) [] []:=by
 unfold z1V
 by_cases h0:l.length=0
 ·rw[if_pos h0]
  obtain rfl:=List.eq_nil_of_length_eq_zero h0
  refine z00 Tryz.func95 rfl rfl rfl rfl rfl (fun E hn hb=>?_)
  repeat refine nx ?_
  exact rtU []
 ·rw[if_neg h0]
  have hne:¬ l= []:=fun e=>h0 (by rw[e]; rfl)
  have h1:=zk5 l h
  have h2:=zhY h hne
  have h3:=(zad h hne).2
  have h4:=z4p k false
  have hpl:z3f (z1e [] l)≤7:=by unfold z3f; omega
  have h5:=zfW ((z3f (z1e [] l):Nat):Int) (z6O (z1G l)) (by omega) (by rw[←h2] at h3; rw[List.length_cons] at h3; omega)
  rw[h2] at h5
  have hrt:z0q (2,k,false)=true:=by unfold z0q; dsimp only; rw[decide_eq_true_iff]; omega
  have h6:=z1R (2,k,false) (flC l) hrt (by omega)
  generalize z6O (z1G l)=Y at*
  generalize ((z3f (z1e [] l):Nat):Int)=u at*
  refine z00 Tryz.func95 rfl rfl rfl rfl rfl (fun E hn hb=>?_)
  repeat refine nx ?_
  exact rt1 []
set_option maxHeartbeats 4000000 in
theorem zbz (r:List AtT) (hb1:∀ a ∈ r,AtB a) (hr:∀ a ∈ r,z1F a=true) (hl:r.length≤16000000) (hw:(r.flatMap atW).length≤14400000):Ct Tryz.prog 151 [z3m r] [] (B8 (z0g r)) [] []:=by
 have hml:(r.map atL).length=r.length:=List.length_map ..
 have h1:=z4n 17
 have h2:=z1R (ofT 17) (r.flatMap atW) (by decide) (by omega)
 have hpre:∀ i,((r.take i).flatMap atW).length≤(r.flatMap atW).length:=fun i=>by
  conv=>rhs; rw[←List.take_append_drop i r,List.flatMap_append,List.length_append]
  exact Nat.le_add_right _ _
 refine z00 Tryz.func151 rfl rfl rfl rfl rfl (fun E hn hb=>?_)
 repeat refine nx ?_
 refine z10 3 900 1 (.ints .u8 []) rfl rfl (.inr (.inl ⟨_,rfl⟩)) ?_
 refine z09 (St.le_of (l:= [(0,z3m r),(3,.c (.own 900 1 0 ((r.take 0).flatMap atW).length)),(4,lv (.int .i64 ((0:Nat):Int)))]) (h:= [(900,rB ((r.take 0).flatMap atW))]) (by refine⟨?_,?_⟩<;>(repeat' (first | exact trivial | exact rfl | refine⟨?_,?_⟩))<;>first | exact rfl |(simp; done) | skip)) ?_
 refine z0k (ι:= {i:Nat//i≤r.length}) (fun i=>St.of [(0,z3m r),(3,.c (.own 900 1 0 ((r.take i.1).flatMap atW).length)),(4,lv (.int .i64 (i.1:Int)))] [(900,rB ((r.take i.1).flatMap atW))]) (fun i=>r.length -i.1) (fun i=>?_) ⟨0,Nat.zero_le _⟩
 obtain⟨i,hi⟩:=i
 dsimp only
 by_cases hi2:i<r.length
 ·have hq:r.getD (i:Int).toNat default=r.getD i atD:=rfl
  have hm:=z1m (d:=atD) hi2
  have hwh:=zbq _ (hb1 _ hm) (hr _ hm)
  clear hm
  have hsn:(r.take (i+1)).flatMap atW=(r.take i).flatMap atW++atW (r.getD i atD):=by rw[z1Y (d:=atD) hi2,List.flatMap_append,List.flatMap_singleton]
  have hp1:=hpre (i+1)
  rw[hsn,List.length_append] at hp1
  generalize r.getD i atD=a at*
  generalize atW a=X at*
  obtain⟨o,v⟩:=a
  repeat (first | refine nx ?_ | rw[hq])
  refine z08 ⟨i+1,by omega⟩ (by dsimp only; omega) (St.le_of ⟨⟨rfl,?_,rfl⟩,?_⟩)
  ·dsimp only; rw[hsn]; rfl
  ·dsimp only; rw[hsn]; rfl
 ·obtain rfl:i=r.length:=by omega
  rw[List.take_length]
  unfold z0g
  generalize r.flatMap atW=X at*
  repeat refine nx ?_
  refine zcv 25 ?_
  repeat refine nx ?_
  exact rt1 []
end Go.Proofs.YtaagjnlkinojcaaGreat
namespace Go.Proofs.YtaagjnlkinojcaaGreat
set_option linter.unusedSimpArgs false
set_option linter.unusedVariables false
open Go Go.Sx
set_option maxRecDepth 10000
set_option maxHeartbeats 4000000 in
theorem zhA (l:List (List AtT)) (hb1:NmB l) (hr:∀ r ∈ l,z0C r=true) (hw:(l.flatMap z0g).length≤14400000):Ct Tryz.prog 190 [nmV l] [] (B8 (z05 (ofT 16) (l.flatMap z0g))) [] []:=by
 have hml:(nmR l).length=l.length:=List.length_map ..
 have hll:=hb1.1
 have h1:=z4n 16
 have h2:=z1R (ofT 16) (l.flatMap z0g) (by decide) (by omega)
 have hpre:∀ i,((l.take i).flatMap z0g).length≤(l.flatMap z0g).length:=fun i=>by
  conv=>rhs; rw[←List.take_append_drop i l,List.flatMap_append,List.length_append]
  exact Nat.le_add_right _ _
 refine z00 Tryz.func190 rfl rfl rfl rfl rfl (fun E hn hb=>?_)
 repeat refine nx ?_
 refine z10 3 900 1 (.ints .u8 []) rfl rfl (.inr (.inl ⟨_,rfl⟩)) ?_
 refine z09 (St.le_of (l:= [(0,nmV l),(3,.c (.own 900 1 0 ((l.take 0).flatMap z0g).length)),(4,lv (.int .i64 ((0:Nat):Int)))]) (h:= [(900,rB ((l.take 0).flatMap z0g))]) (by refine⟨?_,?_⟩<;>(repeat' (first | exact trivial | exact rfl | refine⟨?_,?_⟩))<;>first | exact rfl |(simp; done) | skip)) ?_
 refine z0k (ι:= {i:Nat//i≤l.length}) (fun i=>St.of [(0,nmV l),(3,.c (.own 900 1 0 ((l.take i.1).flatMap z0g).length)),(4,lv (.int .i64 (i.1:Int)))] [(900,rB ((l.take i.1).flatMap z0g))]) (fun i=>l.length -i.1) (fun i=>?_) ⟨0,Nat.zero_le _⟩
 obtain⟨i,hi⟩:=i
 dsimp only
 by_cases hi2:i<l.length
 ·have hq:l.getD (i:Int).toNat []=l.getD i []:=rfl
  have hm:=z1m (d:= []) hi2
  have hsn:(l.take (i+1)).flatMap z0g=(l.take i).flatMap z0g++z0g (l.getD i []):=by rw[z1Y (d:= []) hi2,List.flatMap_append,List.flatMap_singleton]
  have hp1:=hpre (i+1)
  rw[hsn,List.length_append] at hp1
  have hok:=hr _ hm
  have hwl:=z1x (ofT 17) ((l.getD i []).flatMap atW)
  change _≤(z0g (l.getD i [])).length at hwl
  have hst:=zbz _ (hb1.2 _ hm).2 (z3u hok).2.2.1 (hb1.2 _ hm).1 (by omega)
  clear hok hwl
  clear hm
  generalize l.getD i []=a at*
  generalize z0g a=X at*
  repeat (first | refine nx ?_ | rw[hq])
  refine z08 ⟨i+1,by omega⟩ (by dsimp only; omega) (St.le_of ⟨⟨rfl,?_,rfl⟩,?_⟩)
  ·dsimp only; rw[hsn]; rfl
  ·dsimp only; rw[hsn]; rfl
 ·obtain rfl:i=l.length:=by omega
  rw[List.take_length]
  generalize l.flatMap z0g=X at*
  repeat refine nx ?_
  refine zcv 19 ?_
  repeat refine nx ?_
  exact rt1 []
set_option maxHeartbeats 4000000 in
theorem zjC (g:GnT) (hb1:GnB g) (h:z0G g=true) (hl:(g.2.2.flatMap z0g).length≤14400000):Ct Tryz.prog 156 [gnA g] [] (B8 (z0l g)) [] []:=by
 have ht:=zbD h
 have hmd:=zgJ g.1
 have hat:=z4p g.1 (z1K g.1)
 have hbl:=hb1.l
 obtain⟨k,b,n⟩:=g
 unfold z0l
 dsimp only at*
 by_cases hk:k=4
 ·subst hk
  have hno:z15 n=true:=by
   unfold z0G at h
   rw[if_pos rfl,Bool.and_eq_true] at h
   exact h.2
  have hnw:=zhA n hb1.n (z7t hno).2 hl
  have hwl:=z0s (ofT 16) (n.flatMap z0g)
  rw[if_pos rfl]
  unfold z1S
  generalize z05 (ofT 16) (n.flatMap z0g)=W at*
  have hwr:=z1R (2,4,z1K 4) W ht (by omega)
  refine z00 Tryz.func156 rfl rfl rfl rfl rfl (fun E hn hb=>?_)
  repeat refine nx ?_
  exact rt1 []
 ·rw[if_neg hk]
  have hwr:=z1R (2,k,z1K k) b ht (by omega)
  refine z00 Tryz.func156 rfl rfl rfl rfl rfl (fun E hn hb=>?_)
  repeat refine nx ?_
  exact rt1 []
set_option maxHeartbeats 4000000 in
theorem z8b (l:List GnT) (hl0:l.length≤16000000) (hb1:∀ g ∈ l,GnB g) (hr:∀ g ∈ l,z0G g=true) (hw:(l.flatMap z0l).length≤14400000):Ct Tryz.prog 102 [gnV l] [] (B8 (l.flatMap z0l)) [] []:=by
 have hml:(gnR l).length=l.length:=List.length_map ..
 have hpre:∀ i,((l.take i).flatMap z0l).length≤(l.flatMap z0l).length:=fun i=>by
  conv=>rhs; rw[←List.take_append_drop i l,List.flatMap_append,List.length_append]
  exact Nat.le_add_right _ _
 refine z00 Tryz.func102 rfl rfl rfl rfl rfl (fun E hn hb=>?_)
 repeat refine nx ?_
 refine z10 3 900 1 (.ints .u8 []) rfl rfl (.inr (.inl ⟨_,rfl⟩)) ?_
 refine z09 (St.le_of (l:= [(0,gnV l),(3,.c (.own 900 1 0 ((l.take 0).flatMap z0l).length)),(4,lv (.int .i64 ((0:Nat):Int)))]) (h:= [(900,rB ((l.take 0).flatMap z0l))]) (by refine⟨?_,?_⟩<;>(repeat' (first | exact trivial | exact rfl | refine⟨?_,?_⟩))<;>first | exact rfl |(simp; done) | skip)) ?_
 refine z0k (ι:= {i:Nat//i≤l.length}) (fun i=>St.of [(0,gnV l),(3,.c (.own 900 1 0 ((l.take i.1).flatMap z0l).length)),(4,lv (.int .i64 (i.1:Int)))] [(900,rB ((l.take i.1).flatMap z0l))]) (fun i=>l.length -i.1) (fun i=>?_) ⟨0,Nat.zero_le _⟩
 obtain⟨i,hi⟩:=i
 dsimp only
 by_cases hi2:i<l.length
 ·have hq:l.getD (i:Int).toNat default=l.getD i gn0:=rfl
  have hm:=z1m (d:=gn0) hi2
  have hsn:(l.take (i+1)).flatMap z0l=(l.take i).flatMap z0l++z0l (l.getD i gn0):=by rw[z1Y (d:=gn0) hi2,List.flatMap_append,List.flatMap_singleton]
  have hp1:=hpre (i+1)
  rw[hsn,List.length_append] at hp1
  have hok:=hr _ hm
  have hwl:=zdl hok
  have hst:=zjC _ (hb1 _ hm) hok (by omega)
  clear hok hwl
  clear hm
  generalize l.getD i gn0=a at*
  generalize z0l a=X at*
  obtain⟨k,b,n⟩:=a
  repeat (first | refine nx ?_ | rw[hq])
  refine z08 ⟨i+1,by omega⟩ (by dsimp only; omega) (St.le_of ⟨⟨rfl,?_,rfl⟩,?_⟩)
  ·dsimp only; rw[hsn]; rfl
  ·dsimp only; rw[hsn]; rfl
 ·obtain rfl:i=l.length:=by omega
  rw[List.take_length]
  repeat refine nx ?_
  refine z31 2 ?_
  exact rt1 []
theorem zfY (t:z0h) (X:List Int) (ht:z0q t=true) (hl:X.length≤14400000) (hw:WfB X):Ct Tryz.prog 150 [B8 (z05 t X)] [] (B8 X) [] []:=by
 have hwl:=z0s t X
 have hrd:=z9H (z05 t X) 0 (Nat.zero_le _) (by omega) (z1I _ _ ht hw)
 have hat:=z4h [] X [] t ht (by omega)
 simp only[List.nil_append,List.append_nil,List.length_nil,Nat.zero_add] at hat
 rw[hat] at hrd
 have he:z05 t X=(tgL t++z0I X.length)++X:=by unfold z05; rfl
 have hdl:((z05 t X).take ((tgL t).length+(z0I X.length).length+X.length)).drop ((tgL t).length+(z0I X.length).length)=X:=by
  rw[he,List.take_of_length_le (by simp only[List.length_append]; omega),←List.length_append,List.drop_left]
 have hlen:(z05 t X).length=(tgL t).length+(z0I X.length).length+X.length:=by rw[he]; simp only[List.length_append]
 change Ct _ _ _ _ (.tup [z2c t,lv (.int .i64 (X.length:Int)),lv (.int .i64 (((tgL t).length+(z0I X.length).length:Nat):Int)),lv (.int .i64 0)]) _ _ at hrd
 generalize (tgL t).length+(z0I X.length).length=p at*
 generalize z05 t X=V at*
 refine z00 Tryz.func150 rfl rfl rfl rfl rfl (fun E hn hb=>?_)
 repeat refine nx ?_
 rw[show((V.take ((p:Int)+(X.length:Int)).toNat).drop (p:Int).toNat)=X from hdl]
 exact rt1 []
end Go.Proofs.YtaagjnlkinojcaaGreat

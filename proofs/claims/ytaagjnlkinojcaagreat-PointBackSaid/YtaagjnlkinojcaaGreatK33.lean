/-
  Chapter 16: the law PointBack. The conditions: rows that a machine can hold.
-/
import Derived.Test.YtaagjnlkinojcaaGreatK29
import Derived.Test.YtaagjnlkinojcaaGreatQ36
import Derived.Test.YtaagjnlkinojcaaGreatK21
namespace Go.Proofs.YtaagjnlkinojcaaGreat
set_option linter.unusedSimpArgs false
set_option linter.unusedVariables false
open Go.Sx
set_option maxRecDepth 10000
theorem zpZ {t:z0h} {b:List Int} {x:Int} (h:x ∈ b):x ∈ z05 t b:=List.mem_append_right _ h
theorem za9 {t:z0h} {b:List Int} (h:WfB (z05 t b)):WfB b:=fun x hx=>h x (zpZ hx)
theorem wfl {a b:List Int} (h:WfB (a++b)):WfB a∧WfB b:=⟨fun x hx=>h x (List.mem_append_left _ hx),fun x hx=>h x (List.mem_append_right _ hx)⟩
theorem zhD {w:WhT} (hb:WhB w) (hok:z2b w=true) (hl:(z18 (some w)).length≤2000) (hw:WfB (z18 (some w))):WhV w:=by
 have h1:=z1x (2,0,true) (z2o w)
 have hw1:WfB (z2o w):=za9 hw
 change (z05 (2,0,true) (z2o w)).length≤2000 at hl
 unfold z2b at hok
 unfold z2o at h1 hl hw1
 by_cases h0:0<w.2.length
 ·rw[if_pos h0,Bool.and_eq_true,decide_eq_true_iff] at hok
  rw[if_pos h0] at h1 hl hw1
  have h2:=z1x (2,1,true) (w.2.flatMap atW)
  refine⟨hb,?_,by omega,za9 hw1⟩
  rw[List.eq_nil_of_length_eq_zero hok.1]
  exact Nat.zero_le _
 ·rw[if_neg h0] at h1 hl hw1
  have h2:=z1x (2,0,true) (w.1.flatMap z0l)
  have e:w.2= []:=List.eq_nil_of_length_eq_zero (by omega)
  refine⟨hb,by omega,?_,?_⟩
  ·rw[e]; exact Nat.zero_le _
  ·rw[e]; exact fun x hx=>absurd hx List.not_mem_nil
theorem zhE {p:PtT} (hb:PtB p) (hl:(z0o p).length≤2000) (hw:WfB (z0o p)):PtV p:=by
 have h1:=z1x (ofT 16) (z38 p)
 have hw1:WfB (z38 p):=za9 hw
 have hl1:(z38 p).length≤2000:=Nat.le_trans h1 hl
 obtain⟨o,r,g⟩:=p
 unfold z38 at hl1 hw1
 simp only[List.length_append] at hl1
 dsimp only at hl1 hw1
 refine⟨hb,fun w e hok=>?_,fun _=>by dsimp only; omega,fun hg=>?_⟩
 ·dsimp only at e
  subst e
  exact zhD hb.w hok (by omega) (wfl hw1).1
 ·dsimp only at hg ⊢
  have h2:=z1x (2,2,true) (g.flatMap z0l)
  have h3:=(z1P hg).1
  unfold tnW at hl1
  rw[if_neg (by omega)] at hl1
  omega
theorem zaD {y W:List Int} {q:Nat} (h:y.drop 0=W++y.drop q) (hq:q≤y.length):y.take q=W∧W.length≤y.length:=by
 rw[List.drop_zero] at h
 have hl:=congrArg List.length h
 rw[List.length_append,List.length_drop] at hl
 have e:q=W.length:=by omega
 refine⟨?_,by omega⟩
 subst e
 have:=congrArg (List.take W.length) h
 rw[List.take_left] at this
 exact this
theorem zq0 {y:List Int} {p:PtT} {q:Nat} (hw:WfB y) (hl:y.length≤2000) (h:z1t y 0=(p,q,0)):PtV p∧z0A p=true∧y.take q=z0o p∧(z0o p).length≤2000:=by
 have hb:=zbG hw (by omega) h
 have hle:=(z6K y 0 (Nat.zero_le _)).2
 have hB:=zhv hw (by omega) 0 (Nat.zero_le _)
 have hk:=zes h
 rw[h] at hle hB
 obtain⟨t1,t2⟩:=zaD hb hle
 have hwp:WfB (z0o p):=by rw[←t1]; exact fun x hx=>hw x (List.mem_of_mem_take hx)
 exact⟨zhE hB (by omega) hwp,hk,t1,by omega⟩
theorem zdh {x:List Int}:∀(f p:Nat) (acc r:List PtT),z2q x f p acc=(r,0)→(∀ y ∈ acc,z0A y=true)→∀ y ∈ r,z0A y=true
 | 0,p,acc,r,h,ha=>by
   rw[z2q] at h
   simp only[Prod.mk.injEq] at h
   obtain⟨rfl,_⟩:=h
   exact fun y hy=>absurd hy List.not_mem_nil
 | f+1,p,acc,r,h,ha=>by
   rw[z2q] at h
   by_cases hlt:p<x.length
   ·rw[if_pos hlt] at h
    by_cases h6:acc.length=10000
    ·rw[if_pos h6] at h; simp at h
    ·rw[if_neg h6] at h
     dsimp only at h
     have hok:= @zes x p (z1t x p).2.1 (z1t x p).1
     generalize z1t x p=S at*
     obtain⟨y,q,e⟩:=S
     dsimp only at*
     by_cases he:e=0
     ·subst he
      rw[if_pos rfl] at h
      refine zdh f q _ r h fun z hz=>?_
      rcases List.mem_append.1 hz with hz | hz
      ·exact ha z hz
      ·rw[List.mem_singleton.1 hz]; exact hok rfl
     ·rw[if_neg he] at h
      simp only[Prod.mk.injEq] at h
      exact absurd h.2 he
   ·rw[if_neg hlt] at h
    simp only[Prod.mk.injEq] at h
    obtain⟨rfl,_⟩:=h
    exact ha
theorem zlg {y:List Int} {m:List PtT} {q:Nat} (hw:WfB y) (hl:y.length≤2000) (hq:q≤y.length) (h:z2P y 0=(m,q,0)):(∀ p ∈ m,PtV p)∧z8r m=true∧m.length≤10000∧(m.flatMap z0o).length≤2000∧y.take q=z2j m:=by
 obtain⟨m1,m2,hb⟩:=zfU hw (by omega) h
 have hB:=(zld hw (by omega)).1
 rw[h] at hB
 obtain⟨t1,t2⟩:=zaD hb hq
 have h1:=z1x (ofT 16) (m.flatMap z0o)
 have hwp:WfB (z2j m):=by rw[←t1]; exact fun x hx=>hw x (List.mem_of_mem_take hx)
 have hwm:WfB (m.flatMap z0o):=za9 hwp
 have hlm:(m.flatMap z0o).length≤2000:=by unfold z2j at t2; omega
 have hok:∀ p ∈ m,z0A p=true:=by
  unfold z2P at h
  dsimp only at h
  split at h
  ·split at h
   ·simp at h
   ·split at h
    ·rename_i e3
     simp only[Prod.mk.injEq] at h
     exact zdh _ 0 [] m (by rw[←h.1]; exact Prod.ext rfl e3) fun y hy=>absurd hy List.not_mem_nil
    ·simp only[Prod.mk.injEq] at h
     exact absurd h.2.2 ‹_›
  ·simp only[Prod.mk.injEq] at h
   exact absurd h.2.2 ‹_›
 refine⟨fun p hp=>zhE (hB p hp) (Nat.le_trans (zgw hp) hlm) fun x hx=>hwm x (List.mem_flatMap.2 ⟨p,hp,hx⟩),?_,m2,hlm,t1⟩
 unfold z8r
 rw[decide_eq_true m1,Bool.true_and,List.all_eq_true]
 exact hok
theorem zq1 {y:List Int} {s:ScT} {q:Nat} (hw:WfB y) (hl:y.length≤2000) (hq:q≤y.length) (hB:z4I s.1) (h:z3x y 0=(s,q,0)):(∀ w,s.1=some w→z2b w=true→WhV w)∧(z18 s.1).length≤2000∧z4M s=true∧y.take q=z7q s∧(z7q s).length≤2000:=by
 obtain⟨hb,hk⟩:=zhy hw (by omega) h
 obtain⟨t1,t2⟩:=zaD hb hq
 have h1:=z1x (ofT 16) (z89 s)
 have hwp:WfB (z7q s):=by rw[←t1]; exact fun x hx=>hw x (List.mem_of_mem_take hx)
 have hwc:WfB (z89 s):=za9 hwp
 have hlc:(z18 s.1).length≤2000:=by
  unfold z7q at t2
  have:(z18 s.1).length≤(z89 s).length:=by unfold z89; rw[List.length_append]; omega
  omega
 refine⟨fun w e hok=>?_,hlc,hk,t1,by omega⟩
 rw[e] at hlc hB
 exact zhD hB hok hlc (by unfold z89 at hwc; rw[e] at hwc; exact(wfl hwc).1)
theorem zeG (l:List Int):(z2P l 0).2.1≤l.length:=by
 have h:=(z24 l 0 (ofT 16) (Nat.zero_le _)).2
 unfold z2P
 dsimp only
 split
 ·split
  ·exact Nat.zero_le _
  ·split
   ·exact h
   ·exact Nat.zero_le _
 ·exact Nat.zero_le _
theorem zhF (l:List Int):(z3x l 0).2.1≤l.length:=by
 have h:=(z24 l 0 (ofT 16) (Nat.zero_le _)).2
 unfold z3x
 dsimp only
 split
 ·split
  ·exact h
  ·exact Nat.zero_le _
 ·exact Nat.zero_le _
set_option maxHeartbeats 16000000 in
theorem zjD (x:List Int) (hl0:x.length≤big) (hw0:WfB x):Ct Tryz.prog 8 [B8 x] [] (lv (.bool true)) [] []:=by
 have hkn:=z9M
 have hlb:(x.take (min (x.length:Int) 2000).toNat).length≤2000:=by simp; omega
 have hwb:WfB (x.take (min (x.length:Int) 2000).toNat):=fun y hy=>hw0 y (List.mem_of_mem_take hy)
 refine z00 Tryz.func8 rfl rfl rfl rfl rfl (fun E hn hb=>?_)
 repeat refine nxw ?_
 generalize x.take (min (x.length:Int) 2000).toNat=y at*
 have hcn:=z2l y (by omega)
 have h1:=z62 y 0 (Nat.zero_le _) (by omega) hwb
 have h2:=z7D y 0 (Nat.zero_le _) (by omega) hwb
 have h3:=zi7 y 0 (Nat.zero_le _) (by omega) hwb
 have f1:= @zq0 y (z1t y 0).1 (z1t y 0).2.1 hwb hlb
 have f2:= @zlg y (z2P y 0).1 (z2P y 0).2.1 hwb hlb (zeG y)
 have f3:= @zq1 y (z3x y 0).1 (z3x y 0).2.1 hwb hlb (zhF y)
 have hq1:=(z6K y 0 (Nat.zero_le _)).2
 have hq2:=zeG y
 have hq3:=zhF y
 obtain⟨hB3,hr3⟩:=zpY hwb (by omega) 0
 have f3:=f3 hB3
 generalize z1t y 0=R at*
 obtain⟨p,q,e⟩:=R
 generalize z2P y 0=R2 at*
 obtain⟨m,q2,e2⟩:=R2
 generalize z3x y 0=R3 at*
 obtain⟨s,q3,e3⟩:=R3
 dsimp only at*
 have f1:e=0→_:=fun h=>f1 (by rw[h])
 have f2:e2=0→_:=fun h=>f2 (by rw[h])
 have f3:e3=0→_:=fun h=>f3 (by rw[h])
 have a1:=fun _:Unit=>z1z y q
 have a2:=fun _:Unit=>z1z y q2
 have a3:=fun _:Unit=>z1z y q3
 have w1:=fun h:PtV p=>z5j p h
 have s1:=fun h:PtV p=>zaS p p h h
 obtain⟨o,r,g⟩:=p
 obtain⟨o3,⟨b1,b2,b3,b4⟩,r3⟩:=s
 rcases o with _ |⟨g',s'⟩<;>rcases o3 with _ |⟨g3',s3'⟩
 all_goals
  repeat refine nx ?_
  refine z81 (St.of [(0,B8 y),(2,lv (.bool false)),(4,.c (.ptr 90 0)),(5,.c (.ptr 92 0))] [(90,z04 y 0),(92,z04 y 0)]) ?_ ?_
  ·by_cases he:e=0
   ·subst he
    obtain⟨v,k,t,n⟩:=f1 rfl
    have w1:=w1 v
    have s1:=s1 v (fun _=>by omega) (fun _=>by omega)
    rw[if_pos k,if_pos k,←t] at w1
    rw[k,decide_eq_true rfl] at s1
    have c1:=z4k (y.take q) (y.take q) (by simp; omega) (by simp; omega)
    rw[decide_eq_true rfl] at c1
    have a1:=a1 ()
    repeat refine nx ?_
    (refine z47 ?_; refine St.le_of ⟨?_,?_⟩<;>(repeat' (first | exact trivial | exact rfl | refine⟨?_,?_⟩))<;>first | exact rfl |(simp; done) | skip)
   ·repeat refine nx ?_
    (refine z47 ?_; refine St.le_of ⟨?_,?_⟩<;>(repeat' (first | exact trivial | exact rfl | refine⟨?_,?_⟩))<;>first | exact rfl |(simp; done) | skip)
  repeat refine nx ?_
  refine z81 (St.of [(0,B8 y),(2,lv (.bool false)),(5,.c (.ptr 92 0))] [(92,z04 y 0)]) ?_ ?_
  ·by_cases he:e2=0
   ·subst he
    obtain⟨v,k,n,n2,t⟩:=f2 rfl
    have w:=z9D m v n (fun _=>by omega)
    rw[if_pos k,if_pos k,←t] at w
    have c1:=z4k (y.take q2) (y.take q2) (by simp; omega) (by simp; omega)
    rw[decide_eq_true rfl] at c1
    have a1:=a2 ()
    repeat refine nx ?_
    (refine z47 ?_; refine St.le_of ⟨?_,?_⟩<;>(repeat' (first | exact trivial | exact rfl | refine⟨?_,?_⟩))<;>first | exact rfl |(simp; done) | skip)
   ·repeat refine nx ?_
    (refine z47 ?_; refine St.le_of ⟨?_,?_⟩<;>(repeat' (first | exact trivial | exact rfl | refine⟨?_,?_⟩))<;>first | exact rfl |(simp; done) | skip)
  repeat refine nx ?_
  by_cases he:e3=0
  ·subst he
   obtain⟨v,n,k,t,n2⟩:=f3 rfl
   have w:=zhB _ (b1,b2,b3,b4) r3 hB3 (Nat.le_trans hr3 (by decide)) v (fun _=>Nat.le_trans n (by decide))
   rw[if_pos k,if_pos k,←t] at w
   have c1:=z4k (y.take q3) (y.take q3) (by simp; omega) (by simp; omega)
   rw[decide_eq_true rfl] at c1
   have a1:=a3 ()
   repeat refine nx ?_
   exact rt1 []
  ·repeat refine nx ?_
   exact rt1 []
end Go.Proofs.YtaagjnlkinojcaaGreat

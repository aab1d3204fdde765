/-
  Chapter 16: the document's truths and scopes read. The conditions: rows that a machine can hold.
-/
import Derived.Test.YtaagjnlkinojcaaGreatQ29
import Derived.Test.YtaagjnlkinojcaaGreatD15
namespace Go.Proofs.YtaagjnlkinojcaaGreat
set_option linter.unusedSimpArgs false
set_option linter.unusedVariables false
open Go.Sx
set_option maxRecDepth 10000
theorem z4a:z2M (.agg [.lf (.v (.bool false)),z45,z45]) (rwA false ([],[])):=⟨.inl rfl,.inr ⟨rfl,.inr ⟨_,rfl⟩⟩,.inr ⟨rfl,.inr ⟨_,rfl⟩⟩,trivial⟩
theorem zpv (g:List GnT):z2M (.agg [.lf (.v (.bool true)),.lf (.recs 3 (gnR g)),z45]) (rwA true (g,[])):=⟨.inl rfl,.inl rfl,.inr ⟨rfl,.inr ⟨_,rfl⟩⟩,trivial⟩
theorem zpw (r:List AtT):z2M (.agg [.lf (.v (.bool true)),z45,.lf (z2g r)]) (rwA true ([],r)):=⟨.inl rfl,.inr ⟨rfl,.inr ⟨_,rfl⟩⟩,.inl rfl,trivial⟩
abbrev rwE (p:Nat) (r:Option WhT×Nat×Int):Av:= .tup [rwA r.1.isSome (whD r.1),lv (.int .i64 (z5k p r:Int)),lv (.int .i64 r.2.2)]
def zfu (x:List Int):Option WhT×Int:=
 let r:=z0a x 0
 if r.2.2=0 then
  if r.1.1=(2,0,true)∨r.1.1=(2,1,true) then
   let o:=z0m x 0 r.1.1
   if o.2.2=0 then
    if r.1.1.2.1=0 then(if(z0Q o.1).2.2=0 then(if o.2.1<x.length then(none,7) else(some ((z0Q o.1).1,[]),0)) else(none,(z0Q o.1).2.2))
    else(let s:=z1m (z04 (ofT 17) o.1) 0; if s.2.2=0 then(if o.2.1<x.length then(none,7) else(some ([],s.1),0)) else(none,s.2.2))
   else(none,o.2.2)
  else(none,4)
 else(none,r.2.2)
theorem z9X {l:List Int} {p:Nat} (t:z0g) (h:(z0a l p).2.2=0):isH l p t=decide ((z0a l p).1.1=t):=by
 unfold isH
 rw[h,decide_eq_true rfl,Bool.true_and]
theorem zkI {x:List Int} (hw:WfB x):(zfu x)=(let s:=z3L x; if s.2.2=0 then(if s.2.1<x.length then(none,7) else(s.1,0)) else(none,s.2.2)):=by
 unfold zfu z3L
 dsimp only
 by_cases h1:(z0a x 0).2.2=0
 ·rw[if_pos h1,if_pos h1,z9X _ h1,z9X _ h1]
  by_cases h2:(z0a x 0).1.1=(2,0,true)
  ·rw[if_pos (.inl h2),h2,decide_eq_true rfl,if_pos rfl]
   unfold z0l
   rw[z9X _ h1,h2,decide_eq_true rfl,if_pos rfl]
   dsimp only
   rw[if_pos rfl]
   by_cases h3:(z0m x 0 (2,0,true)).2.2=0
   ·rw[if_pos h3,if_pos h3]
    by_cases h4:(z0Q (z0m x 0 (2,0,true)).1).2.2=0
    ·rw[if_pos h4,if_pos h4]
     obtain⟨_,h5,_⟩:=zfG (x:=(z0m x 0 (2,0,true)).1) (r:=(z0Q (z0m x 0 (2,0,true)).1).1) (s:=(z0Q (z0m x 0 (2,0,true)).1).2.1) (fun z hz=>hw z ((z0H x 0 (2,0,true)).2 z hz)) (Prod.ext rfl (Prod.ext rfl h4))
     simp only[h5,Nat.lt_irrefl,if_false,if_true]
    ·rw[if_neg h4,if_neg h4]
     simp only[if_neg h4]
   ·rw[if_neg h3,if_neg h3]
    simp only[if_neg h3]
  ·rw[decide_eq_false h2,if_neg Bool.false_ne_true]
   by_cases h6:(z0a x 0).1.1=(2,1,true)
   ·rw[if_pos (.inr h6),h6,decide_eq_true rfl,if_pos rfl]
    unfold z0l
    rw[z9X _ h1,h6,decide_eq_true rfl,if_pos rfl]
    unfold z3K
    dsimp only
    rw[if_neg (by decide:¬ (1:Int)=0)]
    by_cases h3:(z0m x 0 (2,1,true)).2.2=0
    ·rw[if_pos h3,if_pos h3]
     by_cases h4:(z1m (z04 (ofT 17) (z0m x 0 (2,1,true)).1) 0).2.2=0
     ·rw[if_pos h4,if_pos h4,if_neg (Nat.lt_irrefl _)]
      simp only[if_true]
     ·rw[if_neg h4,if_neg h4]
      simp only[if_neg h4]
    ·rw[if_neg h3,if_neg h3]
     simp only[if_neg h3]
   ·rw[if_neg (by rintro(h | h); exact h2 h; exact h6 h),decide_eq_false h6,if_neg Bool.false_ne_true]
    rfl
 ·rw[if_neg h1,if_neg h1]
  simp only[if_neg h1]
theorem zgL {l:List Int} {p:Nat} {t:z0g} (hw:WfB l):z0l none l p t z3L=(if(z1C l p t).2.2.1=true then(let s:=zfu (z1C l p t).1; (s.1,(z1C l p t).2.1,s.2)) else(none,p,(z1C l p t).2.2.2)):=by
 rw[z7L,zkI (fun z hz=>hw z ((z70 l p t).2 z hz))]
 dsimp only
 split
 ·split
  ·split
   ·rfl
   ·rfl
  ·rfl
 ·rfl
set_option maxHeartbeats 8000000 in
theorem zgM (l:List Int) (p:Nat) (hp:p≤l.length) (hl:l.length≤11760000) (hw:WfB l):Ct Tryz.prog 58 [B8 l,lv (.int .i64 (p:Int))] [] (rwE p (z0l none l p (2,0,true) z3L)) [] []:=by
 have hnx:=z9g l p 0 true hp (by omega) hw
 have hm:=z70 l p (2,0,true)
 have hno:= @zaw l p (2,0,true)
 have hyes:= @z9a l p (2,0,true)
 rw[zgL hw]
 unfold rwE z5k
 generalize z1C l p (2,0,true)=X at*
 obtain⟨x,q,T,e⟩:=X
 dsimp only at*
 cases T with
 | false=>
   obtain⟨rfl,rfl⟩:=hno Bool.false_ne_true
   rw[if_neg Bool.false_ne_true]
   dsimp only
   rw[ite_self]
   clear hno hyes hm
   show Ct _ _ _ _ (.tup [rwA false ([],[]),lv (.int .i64 (q:Int)),lv (.int .i64 e)]) _ _
   by_cases he:e=0
   ·subst he
    refine z00 Tryz.func58 rfl rfl rfl rfl rfl (fun E hn hb=>?_)
    repeat refine nx ?_
    refine rtU [] (hu:=?_)
    exact⟨z4a,.inl rfl,.inl rfl,trivial⟩
   ·refine z00 Tryz.func58 rfl rfl rfl rfl rfl (fun E hn hb=>?_)
    repeat refine nx ?_
    refine rtU [] (hu:=?_)
    exact⟨z4a,.inl rfl,.inl rfl,trivial⟩
 | true=>
   obtain rfl:=hyes rfl
   rw[if_pos rfl]
   clear hno hyes
   have hwx:WfB x:=fun z hz=>hw z (hm.2 z hz)
   have hrd:=z3o x 0 (Nat.zero_le _) (by omega) hwx
   have hop:=z3p x 0 (z0a x 0).1.1 (Nat.zero_le _) (by omega) hwx
   have hom:=z0H x 0 (z0a x 0).1.1
   have ha0:=z3k 0 true
   have ha1:=z3k 1 true
   unfold zfu
   generalize z0a x 0=R at*
   obtain⟨⟨⟨c,k,m⟩,z⟩,r,er⟩:=R
   dsimp only at*
   by_cases h1:er=0
   ·subst h1
    rw[if_pos rfl]
    by_cases h2:(c,k,m)=((2,0,true):z0g)∨(c,k,m)=((2,1,true):z0g)
    ·rw[if_pos h2]
     generalize z0m x 0 (c,k,m)=Y at*
     obtain⟨y,s,f⟩:=Y
     dsimp only at*
     have hwy:WfB y:=fun z hz=>hwx z (hom.2 z hz)
     rcases h2 with h2 | h2
     all_goals
      simp only[Prod.mk.injEq] at h2
      obtain⟨rfl,rfl,rfl⟩:=h2
     ·by_cases hf:f=0
      ·subst hf
       rw[if_pos rfl]
       have hgp:=zdr y (by omega) hwy
       rw[if_pos rfl]
       generalize z0Q y=G at*
       obtain⟨g,gs,ge⟩:=G
       dsimp only at*
       by_cases hge:ge=0
       ·subst hge
        rw[if_pos rfl]
        by_cases hs:s<x.length
        ·rw[if_pos hs]
         dsimp only
         rw[if_neg (by decide:¬ (7:Int)=0)]
         show Ct _ _ _ _ (.tup [rwA false ([],[]),lv (.int .i64 (p:Int)),lv (.int .i64 7)]) _ _
         refine z00 Tryz.func58 rfl rfl rfl rfl rfl (fun E hn hb=>?_)
         repeat refine nx ?_
         refine z06 rfl (by simp) (fun hc=>?_) (fun hc=>?_)
         ·exfalso
          change (bif (z16 (z0L (2,0,true)) (z0L (2,0,true))!=true) then(z16 (z0L (2,0,true)) (z0L (2,1,true))!=true) else false)=true at hc
          rw[eqT,eqT] at hc
          exact absurd hc (by decide)
         ·repeat refine nx ?_
          refine rtU [] (hu:=?_)
          exact⟨z4a,.inl rfl,.inl rfl,trivial⟩
        ·rw[if_neg hs]
         dsimp only
         rw[if_pos rfl]
         show Ct _ _ _ _ (.tup [rwA true (g,[]),lv (.int .i64 (q:Int)),lv (.int .i64 0)]) _ _
         refine z00 Tryz.func58 rfl rfl rfl rfl rfl (fun E hn hb=>?_)
         repeat refine nx ?_
         refine z06 rfl (by simp) (fun hc=>?_) (fun hc=>?_)
         ·exfalso
          change (bif (z16 (z0L (2,0,true)) (z0L (2,0,true))!=true) then(z16 (z0L (2,0,true)) (z0L (2,1,true))!=true) else false)=true at hc
          rw[eqT,eqT] at hc
          exact absurd hc (by decide)
         ·repeat refine nx ?_
          refine rtU [] (hu:=?_)
          exact⟨zpv g,.inl rfl,.inl rfl,trivial⟩
       ·rw[if_neg hge]
        dsimp only
        rw[if_neg hge]
        show Ct _ _ _ _ (.tup [rwA false ([],[]),lv (.int .i64 (p:Int)),lv (.int .i64 ge)]) _ _
        refine z00 Tryz.func58 rfl rfl rfl rfl rfl (fun E hn hb=>?_)
        repeat refine nx ?_
        refine z06 rfl (by simp) (fun hc=>?_) (fun hc=>?_)
        ·exfalso
         change (bif (z16 (z0L (2,0,true)) (z0L (2,0,true))!=true) then(z16 (z0L (2,0,true)) (z0L (2,1,true))!=true) else false)=true at hc
         rw[eqT,eqT] at hc
         exact absurd hc (by decide)
        ·repeat refine nx ?_
         refine rtU [] (hu:=?_)
         exact⟨z4a,.inl rfl,.inl rfl,trivial⟩
      ·rw[if_neg hf]
       dsimp only
       rw[if_neg hf]
       show Ct _ _ _ _ (.tup [rwA false ([],[]),lv (.int .i64 (p:Int)),lv (.int .i64 f)]) _ _
       refine z00 Tryz.func58 rfl rfl rfl rfl rfl (fun E hn hb=>?_)
       repeat refine nx ?_
       refine z06 rfl (by simp) (fun hc=>?_) (fun hc=>?_)
       ·exfalso
        change (bif (z16 (z0L (2,0,true)) (z0L (2,0,true))!=true) then(z16 (z0L (2,0,true)) (z0L (2,1,true))!=true) else false)=true at hc
        rw[eqT,eqT] at hc
        exact absurd hc (by decide)
       ·repeat refine nx ?_
        refine rtU [] (hu:=?_)
        exact⟨z4a,.inl rfl,.inl rfl,trivial⟩
     ·by_cases hf:f=0
      ·subst hf
       rw[if_pos rfl]
       have hof:=z2h 17
       have hwr:=z22 (ofT 17) y (by decide) (by omega)
       have hlw:=z0t (ofT 17) y
       have hgp:=z81 (z04 (ofT 17) y) 0 (Nat.zero_le _) (by omega) (z1B (ofT 17) y (by decide) hwy)
       rw[if_neg (by decide:¬ (1:Int)=0)]
       generalize z04 (ofT 17) y=W at*
       generalize z1m W 0=G at*
       obtain⟨g,gs,ge⟩:=G
       dsimp only at*
       by_cases hge:ge=0
       ·subst hge
        rw[if_pos rfl]
        by_cases hs:s<x.length
        ·rw[if_pos hs]
         dsimp only
         rw[if_neg (by decide:¬ (7:Int)=0)]
         show Ct _ _ _ _ (.tup [rwA false ([],[]),lv (.int .i64 (p:Int)),lv (.int .i64 7)]) _ _
         refine z00 Tryz.func58 rfl rfl rfl rfl rfl (fun E hn hb=>?_)
         repeat refine nx ?_
         refine z06 rfl (by simp) (fun hc=>?_) (fun hc=>?_)
         ·exfalso
          change (bif (z16 (z0L (2,1,true)) (z0L (2,0,true))!=true) then(z16 (z0L (2,1,true)) (z0L (2,1,true))!=true) else false)=true at hc
          rw[eqT,eqT] at hc
          exact absurd hc (by decide)
         ·repeat refine nx ?_
          refine rtU [] (hu:=?_)
          exact⟨z4a,.inl rfl,.inl rfl,trivial⟩
        ·rw[if_neg hs]
         dsimp only
         rw[if_pos rfl]
         show Ct _ _ _ _ (.tup [rwA true ([],g),lv (.int .i64 (q:Int)),lv (.int .i64 0)]) _ _
         refine z00 Tryz.func58 rfl rfl rfl rfl rfl (fun E hn hb=>?_)
         repeat refine nx ?_
         refine z06 rfl (by simp) (fun hc=>?_) (fun hc=>?_)
         ·exfalso
          change (bif (z16 (z0L (2,1,true)) (z0L (2,0,true))!=true) then(z16 (z0L (2,1,true)) (z0L (2,1,true))!=true) else false)=true at hc
          rw[eqT,eqT] at hc
          exact absurd hc (by decide)
         ·repeat refine nx ?_
          refine rtU [] (hu:=?_)
          exact⟨zpw g,.inl rfl,.inl rfl,trivial⟩
       ·rw[if_neg hge]
        dsimp only
        rw[if_neg hge]
        show Ct _ _ _ _ (.tup [rwA false ([],[]),lv (.int .i64 (p:Int)),lv (.int .i64 ge)]) _ _
        refine z00 Tryz.func58 rfl rfl rfl rfl rfl (fun E hn hb=>?_)
        repeat refine nx ?_
        refine z06 rfl (by simp) (fun hc=>?_) (fun hc=>?_)
        ·exfalso
         change (bif (z16 (z0L (2,1,true)) (z0L (2,0,true))!=true) then(z16 (z0L (2,1,true)) (z0L (2,1,true))!=true) else false)=true at hc
         rw[eqT,eqT] at hc
         exact absurd hc (by decide)
        ·repeat refine nx ?_
         refine rtU [] (hu:=?_)
         exact⟨z4a,.inl rfl,.inl rfl,trivial⟩
      ·rw[if_neg hf]
       dsimp only
       rw[if_neg hf]
       show Ct _ _ _ _ (.tup [rwA false ([],[]),lv (.int .i64 (p:Int)),lv (.int .i64 f)]) _ _
       refine z00 Tryz.func58 rfl rfl rfl rfl rfl (fun E hn hb=>?_)
       repeat refine nx ?_
       refine z06 rfl (by simp) (fun hc=>?_) (fun hc=>?_)
       ·exfalso
        change (bif (z16 (z0L (2,1,true)) (z0L (2,0,true))!=true) then(z16 (z0L (2,1,true)) (z0L (2,1,true))!=true) else false)=true at hc
        rw[eqT,eqT] at hc
        exact absurd hc (by decide)
       ·repeat refine nx ?_
        refine rtU [] (hu:=?_)
        exact⟨z4a,.inl rfl,.inl rfl,trivial⟩
    ·rw[if_neg h2]
     dsimp only
     rw[if_neg (by decide:¬ (4:Int)=0)]
     show Ct _ _ _ _ (.tup [rwA false ([],[]),lv (.int .i64 (p:Int)),lv (.int .i64 4)]) _ _
     refine z00 Tryz.func58 rfl rfl rfl rfl rfl (fun E hn hb=>?_)
     repeat refine nx ?_
     refine z06 rfl (by simp) (fun hc=>?_) (fun hc=>?_)
     ·repeat refine nx ?_
      refine rtU [] (hu:=?_)
      exact⟨z4a,.inl rfl,.inl rfl,trivial⟩
     ·exfalso
      change (bif (z16 (z0L (c,k,m)) (z0L (2,0,true))!=true) then(z16 (z0L (c,k,m)) (z0L (2,1,true))!=true) else false)=false at hc
      rw[eqT,eqT,decide_eq_false (fun h=>h2 (.inl h)),decide_eq_false (fun h=>h2 (.inr h))] at hc
      exact absurd hc (by decide)
   ·rw[if_neg h1]
    dsimp only
    rw[if_neg h1]
    show Ct _ _ _ _ (.tup [rwA false ([],[]),lv (.int .i64 (p:Int)),lv (.int .i64 er)]) _ _
    refine z00 Tryz.func58 rfl rfl rfl rfl rfl (fun E hn hb=>?_)
    repeat refine nx ?_
    refine rtU [] (hu:=?_)
    exact⟨z4a,.inl rfl,.inl rfl,trivial⟩
theorem zri {x:List Int} (hw:WfB x) (hl:x.length≤11760000) (p:Nat) (t:z0g):z4M (z0l none x p t z3L).1:=by
 rw[←z6o none x p t z9P]
 rcases z48 none x p t z3D with h |⟨y,h1,h2,h3,h⟩
 ·rw[h]; trivial
 ·rw[h]; exact zgy (fun z hz=>hw z (h2 z hz)) (by omega)
theorem zrj (x:List Int) (p:Nat) (t:z0g):(z0l [] x p t z2b).1.length≤32:=by
 rcases z48 [] x p t z2b with h |⟨y,h1,h2,h3,h⟩
 ·rw[h]; simp
 ·rw[h]; exact zcD y
set_option maxHeartbeats 4000000 in
theorem z5t (l:List Int) (p:Nat) (n:Int) (hp:p≤l.length) (hl:l.length≤11760000) (hw:WfB l):Ct Tryz.prog 96 [B8 l,lv (.int .i64 (p:Int)),lv (.int .i64 n)] [] (.tup [lv (.bool (z0l false l p (2,n,false) z1f).1),lv (.int .i64 (z5k p (z0l false l p (2,n,false) z1f):Int)),lv (.int .i64 (z0l false l p (2,n,false) z1f).2.2)]) [] []:=by
 have hnx:=z9g l p n false hp (by omega) hw
 have hm:=z70 l p (2,n,false)
 have hno:= @zaw l p (2,n,false)
 have hyes:= @z9a l p (2,n,false)
 rw[z7L]
 unfold z5k
 generalize z1C l p (2,n,false)=X at*
 obtain⟨x,q,T,e⟩:=X
 dsimp only at*
 cases T with
 | false=>
   obtain⟨rfl,rfl⟩:=hno (by decide)
   rw[if_neg (by decide)]
   dsimp only
   rw[ite_self]
   clear hno hyes hm
   by_cases he:e=0
   ·subst he
    refine z00 Tryz.func96 rfl rfl rfl rfl rfl (fun E hn hb=>?_)
    repeat refine nx ?_
    exact rt1 []
   ·refine z00 Tryz.func96 rfl rfl rfl rfl rfl (fun E hn hb=>?_)
    repeat refine nx ?_
    exact rt1 []
 | true=>
   obtain rfl:=hyes rfl
   rw[if_pos rfl]
   unfold z1f
   by_cases h1:x.length=1
   ·match x,h1 with
    | [c],_=>
      by_cases hc:c=255
      ·subst hc
       rw[if_pos rfl]
       refine z00 Tryz.func96 rfl rfl rfl rfl rfl (fun E hn hb=>?_)
       repeat refine nx ?_
       exact rt1 []
      ·rw[show(if([c]:List Int)= [255] then((true,[c].length,0):Bool×Nat×Int) else(false,[c].length,6))=(false,[c].length,6) from if_neg (fun h=>hc (by simpa using h))]
       simp only[show ¬ (6:Int)=0 by decide,if_false]
       refine z00 Tryz.func96 rfl rfl rfl rfl rfl (fun E hn hb=>?_)
       repeat refine nx ?_
       exact rt1 []
   ·rw[show(if x= [255] then((true,x.length,0):Bool×Nat×Int) else(false,x.length,6))=(false,x.length,6) from if_neg (fun h=>h1 (by rw[h]; rfl))]
    simp only[show ¬ (6:Int)=0 by decide,if_false]
    refine z00 Tryz.func96 rfl rfl rfl rfl rfl (fun E hn hb=>?_)
    repeat (first | refine nx ?_ | refine wgF (lv (.bool false)) hn ?_)
    exact rt1 []
end Go.Proofs.YtaagjnlkinojcaaGreat

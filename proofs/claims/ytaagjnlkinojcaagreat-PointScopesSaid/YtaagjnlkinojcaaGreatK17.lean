/-
  Chapter 16: truths written by the program into a sheet. The conditions: right ones, rows that a machine can hold.
-/
import Derived.Test.YtaagjnlkinojcaaGreatK13
import Derived.Test.YtaagjnlkinojcaaGreatSxA
import Derived.Test.YtaagjnlkinojcaaGreatN1
import Derived.Test.YtaagjnlkinojcaaGreatJ5
import Derived.Test.YtaagjnlkinojcaaGreatP0
namespace Go.Proofs.YtaagjnlkinojcaaGreat
set_option linter.unusedSimpArgs false
set_option linter.unusedVariables false
open Go.Sx
set_option maxRecDepth 10000
abbrev zjT (s:ScT):Av:=z6W s.1.isSome (whD s.1) s.2.1 s.2.2
theorem z41:z2M (.agg [.lf (.v (.bool false)),z45,z45,.lf (.v (.bool false)),.lf (.v (.bool false)),.lf (.v (.bool false)),.lf (.v (.bool false)),z45]) (zjT sc0):=⟨.inl rfl,.inr ⟨rfl,.inr ⟨_,rfl⟩⟩,.inr ⟨rfl,.inr ⟨_,rfl⟩⟩,.inl rfl,.inl rfl,.inl rfl,.inl rfl,.inr ⟨rfl,.inl ⟨_,rfl⟩⟩,trivial⟩
set_option maxHeartbeats 16000000 in
theorem z7D (l:List Int) (p:Nat) (hp:p≤l.length) (hl:l.length≤11760000) (hw:WfB l):Ct Tryz.prog 38 [B8 l,lv (.int .i64 (p:Int))] [] (.tup [zjT (z1P l p).1,lv (.int .i64 ((z1P l p).2.1:Int)),lv (.int .i64 (z1P l p).2.2)]) [] []:=by
 have hof:=z2h 16
 have hop:=z3p l p (ofT 16) hp (by omega) hw
 have hom:=z0H l p (ofT 16)
 unfold z1P
 dsimp only
 generalize z0m l p (ofT 16)=X at*
 obtain⟨x,q,e⟩:=X
 dsimp only at*
 by_cases he:e=0
 ·subst he
  rw[if_pos rfl]
  have hwx:WfB x:=fun z hz=>hw z (hom.2 z hz)
  unfold z89
  dsimp only
  have hA:=zgM x 0 (Nat.zero_le _) (by omega) hwx
  have hA3:=zri hwx (by omega) 0 (2,0,true)
  unfold rwE z5k at hA
  have hA2:=z3n none x 0 (2,0,true) z3L (Nat.zero_le _)
  generalize z0l none x 0 (2,0,true) z3L=A at*
  obtain⟨a,pa,ea⟩:=A
  dsimp only at*
  by_cases hea:ea=0
  ·subst hea
   rw[if_pos rfl] at hA
   rw[if_pos rfl]
   have hB:=z5t x pa 1 hA2.2 (by omega) hwx
   unfold z5k at hB
   have hB2:=z3n false x pa (2,1,false) z1f hA2.2
   generalize z0l false x pa (2,1,false) z1f=B at*
   obtain⟨b,pb,eb⟩:=B
   dsimp only at*
   by_cases heb:eb=0
   ·subst heb
    rw[if_pos rfl] at hB
    rw[if_pos rfl]
    replace hB:=fun _:Unit=>hB
    have hC:=z5t x pb 2 hB2.2 (by omega) hwx
    unfold z5k at hC
    have hC2:=z3n false x pb (2,2,false) z1f hB2.2
    generalize z0l false x pb (2,2,false) z1f=C at*
    obtain⟨c,pc,ec⟩:=C
    dsimp only at*
    by_cases hec:ec=0
    ·subst hec
     rw[if_pos rfl] at hC
     rw[if_pos rfl]
     replace hC:=fun _:Unit=>hC
     have hD:=zfb x pc 3 hC2.2 (by omega) hwx
     have hD3:=zrj x pc (2,3,false)
     unfold z5k at hD
     have hD2:=z3n [] x pc (2,3,false) z2b hC2.2
     generalize z0l [] x pc (2,3,false) z2b=D at*
     obtain⟨d,pd,ed⟩:=D
     dsimp only at*
     by_cases hed:ed=0
     ·subst hed
      rw[if_pos rfl] at hD
      rw[if_pos rfl]
      have hF:=z5t x pd 4 hD2.2 (by omega) hwx
      unfold z5k at hF
      have hF2:=z3n false x pd (2,4,false) z1f hD2.2
      generalize z0l false x pd (2,4,false) z1f=F at*
      obtain⟨f,pf,ef⟩:=F
      dsimp only at*
      by_cases hef:ef=0
      ·subst hef
       rw[if_pos rfl] at hF
       rw[if_pos rfl]
       replace hF:=fun _:Unit=>hF
       have hG:=z5t x pf 5 hF2.2 (by omega) hwx
       unfold z5k at hG
       have hG2:=z3n false x pf (2,5,false) z1f hF2.2
       generalize z0l false x pf (2,5,false) z1f=G at*
       obtain⟨g,pg,eg⟩:=G
       dsimp only at*
       by_cases heg:eg=0
       ·subst heg
        rw[if_pos rfl] at hG
        rw[if_pos rfl]
        replace hG:=fun _:Unit=>hG
        by_cases hlt:pg<x.length
        ·rw[if_pos hlt]
         dsimp only
         rw[if_neg (by decide:¬ (7:Int)=0)]
         refine z00 Tryz.func38 rfl rfl rfl rfl rfl (fun E hn hb=>?_)
         repeat (first | refine nx ?_ | refine wgF (lv (.bool false)) hn ?_)
         have ct:=hB ()
         repeat (first | refine nx ?_ | refine wgF (lv (.bool false)) hn ?_)
         clear ct
         have ct:=hC ()
         repeat (first | refine nx ?_ | refine wgF (lv (.bool false)) hn ?_)
         clear ct
         have ct:=hF ()
         repeat (first | refine nx ?_ | refine wgF (lv (.bool false)) hn ?_)
         clear ct
         have ct:=hG ()
         repeat (first | refine nx ?_ | refine wgF (lv (.bool false)) hn ?_)
         clear ct
         refine rtU [] (hu:=?_)
         exact⟨z41,.inl rfl,.inl rfl,trivial⟩
        ·rw[if_neg hlt]
         have hR:Ct Tryz.prog 33 [zjT (a,(b,c,f,g),d)] [] (lv (.bool (z3E (a,(b,c,f,g),d)))) [] []:=by
          cases a with
          | none=>exact z6m false ([],[]) (b,c,f,g) d ⟨Nat.zero_le _,fun _ h=>absurd h List.not_mem_nil,Nat.zero_le _,fun _ h=>absurd h List.not_mem_nil⟩ (by omega)
          | some w=>exact z6m true w (b,c,f,g) d hA3 (by omega)
         generalize z3E (a,(b,c,f,g),d)=K at*
         cases K with
         | true=>
           rw[if_pos rfl]
           dsimp only
           rw[if_pos rfl]
           refine z00 Tryz.func38 rfl rfl rfl rfl rfl (fun E hn hb=>?_)
           repeat (first | refine nx ?_ | refine wgF (lv (.bool false)) hn ?_)
           have ct:=hB ()
           repeat (first | refine nx ?_ | refine wgF (lv (.bool false)) hn ?_)
           clear ct
           have ct:=hC ()
           repeat (first | refine nx ?_ | refine wgF (lv (.bool false)) hn ?_)
           clear ct
           have ct:=hF ()
           repeat (first | refine nx ?_ | refine wgF (lv (.bool false)) hn ?_)
           clear ct
           have ct:=hG ()
           repeat (first | refine nx ?_ | refine wgF (lv (.bool false)) hn ?_)
           clear ct
           exact rt1 []
         | false=>
           rw[if_neg Bool.false_ne_true]
           dsimp only
           rw[if_neg (by decide:¬ (6:Int)=0)]
           refine z00 Tryz.func38 rfl rfl rfl rfl rfl (fun E hn hb=>?_)
           repeat (first | refine nx ?_ | refine wgF (lv (.bool false)) hn ?_)
           have ct:=hB ()
           repeat (first | refine nx ?_ | refine wgF (lv (.bool false)) hn ?_)
           clear ct
           have ct:=hC ()
           repeat (first | refine nx ?_ | refine wgF (lv (.bool false)) hn ?_)
           clear ct
           have ct:=hF ()
           repeat (first | refine nx ?_ | refine wgF (lv (.bool false)) hn ?_)
           clear ct
           have ct:=hG ()
           repeat (first | refine nx ?_ | refine wgF (lv (.bool false)) hn ?_)
           clear ct
           refine rtU [] (hu:=?_)
           exact⟨z41,.inl rfl,.inl rfl,trivial⟩
       ·rw[if_neg heg] at hG
        rw[if_neg heg]
        dsimp only
        rw[if_neg heg]
        have hz:(eg==0)=false:=beq_eq_false_iff_ne.2 heg
        replace hG:=fun _:Unit=>hG
        refine z00 Tryz.func38 rfl rfl rfl rfl rfl (fun E hn hb=>?_)
        repeat (first | refine nx ?_ | rw[hz] | refine wgF (lv (.bool false)) hn ?_)
        have ct:=hB ()
        repeat (first | refine nx ?_ | rw[hz] | refine wgF (lv (.bool false)) hn ?_)
        clear ct
        have ct:=hC ()
        repeat (first | refine nx ?_ | rw[hz] | refine wgF (lv (.bool false)) hn ?_)
        clear ct
        have ct:=hF ()
        repeat (first | refine nx ?_ | rw[hz] | refine wgF (lv (.bool false)) hn ?_)
        clear ct
        have ct:=hG ()
        repeat (first | refine nx ?_ | rw[hz] | refine wgF (lv (.bool false)) hn ?_)
        clear ct
        refine rtU [] (hu:=?_)
        exact⟨z41,.inl rfl,.inl rfl,trivial⟩
      ·rw[if_neg hef] at hF
       rw[if_neg hef]
       dsimp only
       rw[if_neg hef]
       have hz:(ef==0)=false:=beq_eq_false_iff_ne.2 hef
       replace hF:=fun _:Unit=>hF
       refine z00 Tryz.func38 rfl rfl rfl rfl rfl (fun E hn hb=>?_)
       repeat (first | refine nx ?_ | rw[hz] | refine wgF (lv (.bool false)) hn ?_)
       have ct:=hB ()
       repeat (first | refine nx ?_ | rw[hz] | refine wgF (lv (.bool false)) hn ?_)
       clear ct
       have ct:=hC ()
       repeat (first | refine nx ?_ | rw[hz] | refine wgF (lv (.bool false)) hn ?_)
       clear ct
       have ct:=hF ()
       repeat (first | refine nx ?_ | rw[hz] | refine wgF (lv (.bool false)) hn ?_)
       clear ct
       refine rtU [] (hu:=?_)
       exact⟨z41,.inl rfl,.inl rfl,trivial⟩
     ·rw[if_neg hed] at hD
      rw[if_neg hed]
      dsimp only
      rw[if_neg hed]
      have hz:(ed==0)=false:=beq_eq_false_iff_ne.2 hed
      refine z00 Tryz.func38 rfl rfl rfl rfl rfl (fun E hn hb=>?_)
      repeat (first | refine nx ?_ | rw[hz] | refine wgF (lv (.bool false)) hn ?_)
      have ct:=hB ()
      repeat (first | refine nx ?_ | rw[hz] | refine wgF (lv (.bool false)) hn ?_)
      clear ct
      have ct:=hC ()
      repeat (first | refine nx ?_ | rw[hz] | refine wgF (lv (.bool false)) hn ?_)
      clear ct
      refine rtU [] (hu:=?_)
      exact⟨z41,.inl rfl,.inl rfl,trivial⟩
    ·rw[if_neg hec] at hC
     rw[if_neg hec]
     dsimp only
     rw[if_neg hec]
     have hz:(ec==0)=false:=beq_eq_false_iff_ne.2 hec
     replace hC:=fun _:Unit=>hC
     refine z00 Tryz.func38 rfl rfl rfl rfl rfl (fun E hn hb=>?_)
     repeat (first | refine nx ?_ | rw[hz] | refine wgF (lv (.bool false)) hn ?_)
     have ct:=hB ()
     repeat (first | refine nx ?_ | rw[hz] | refine wgF (lv (.bool false)) hn ?_)
     clear ct
     have ct:=hC ()
     repeat (first | refine nx ?_ | rw[hz] | refine wgF (lv (.bool false)) hn ?_)
     clear ct
     refine rtU [] (hu:=?_)
     exact⟨z41,.inl rfl,.inl rfl,trivial⟩
   ·rw[if_neg heb] at hB
    rw[if_neg heb]
    dsimp only
    rw[if_neg heb]
    have hz:(eb==0)=false:=beq_eq_false_iff_ne.2 heb
    replace hB:=fun _:Unit=>hB
    refine z00 Tryz.func38 rfl rfl rfl rfl rfl (fun E hn hb=>?_)
    repeat (first | refine nx ?_ | rw[hz] | refine wgF (lv (.bool false)) hn ?_)
    have ct:=hB ()
    repeat (first | refine nx ?_ | rw[hz] | refine wgF (lv (.bool false)) hn ?_)
    clear ct
    refine rtU [] (hu:=?_)
    exact⟨z41,.inl rfl,.inl rfl,trivial⟩
  ·rw[if_neg hea] at hA
   rw[if_neg hea]
   dsimp only
   rw[if_neg hea]
   have hz:(ea==0)=false:=beq_eq_false_iff_ne.2 hea
   refine z00 Tryz.func38 rfl rfl rfl rfl rfl (fun E hn hb=>?_)
   repeat (first | refine nx ?_ | rw[hz] | refine wgF (lv (.bool false)) hn ?_)
   refine rtU [] (hu:=?_)
   exact⟨z41,.inl rfl,.inl rfl,trivial⟩
 ·rw[if_neg he]
  have hz:(e==0)=false:=beq_eq_false_iff_ne.2 he
  refine z00 Tryz.func38 rfl rfl rfl rfl rfl (fun E hn hb=>?_)
  repeat (first | refine nx ?_ | rw[hz] | refine wgF (lv (.bool false)) hn ?_)
  refine rtU [] (hu:=?_)
  exact⟨z41,.inl rfl,.inl rfl,trivial⟩
def z2T (x:List Int):ScT×Nat×Int:=
 let a:=z1D none 0 x 0 (2,0,true) z3D
 let b:=z1D false a.2.2 x a.2.1 (2,1,false) z1f
 let c:=z1D false b.2.2 x b.2.1 (2,2,false) z1f
 let d:=z1D [] c.2.2 x c.2.1 (2,3,false) z2b
 let f:=z1D false d.2.2 x d.2.1 (2,4,false) z1f
 let g:=z1D false f.2.2 x f.2.1 (2,5,false) z1f
 ((a.1,(b.1,c.1,f.1,g.1),d.1),g.2.1,g.2.2)
theorem z8L (x:List Int):(z1f x).2.1≤x.length:=by
 unfold z1f
 split
 ·exact Nat.le_refl _
 ·exact Nat.le_refl _
set_option maxHeartbeats 4000000 in
theorem zjU (x:List Int) (hl:x.length≤11760000) (hw:WfB x):Ct Tryz.prog 89 [.c (.ptr 0 0)] [z2y 0,z05 x 0] (z6X (z2T x).1.1 (z2T x).1.2.1 (z2T x).1.2.2) [z2y (z2T x).2.2,z05 x (z2T x).2.1] []:=by
 have h1:=zhN x 0 0 true 52 0 z3D (Nat.zero_le _) hl hw zky (fun y hy hwy=>zil y (by omega) hwy)
 unfold z2T
 dsimp only
 have l1:=z3a none 0 x 0 (2,0,true) z3D (Nat.zero_le _)
 generalize z1D none 0 x 0 (2,0,true) z3D=A at*
 obtain⟨a,pa,ea⟩:=A
 dsimp only at*
 have h2:=fun _:Unit=>z7b x pa 1 false 91 ea z1f l1.2 (by omega) hw z8L (fun y hy hwy=>z7a y (by omega))
 have l2:=z3a false ea x pa (2,1,false) z1f l1.2
 generalize z1D false ea x pa (2,1,false) z1f=B at*
 obtain⟨b,pb,eb⟩:=B
 dsimp only at*
 have h3:=fun _:Unit=>z7b x pb 2 false 91 eb z1f l2.2 (by omega) hw z8L (fun y hy hwy=>z7a y (by omega))
 have l3:=z3a false eb x pb (2,2,false) z1f l2.2
 generalize z1D false eb x pb (2,2,false) z1f=C at*
 obtain⟨c,pc,ec⟩:=C
 dsimp only at*
 have h4:=ziI x pc 3 false 54 ec z2b l3.2 (by omega) hw zkB (fun y hy hwy=>zgm y (by omega) hwy)
 have l4:=z3a [] ec x pc (2,3,false) z2b l3.2
 generalize z1D [] ec x pc (2,3,false) z2b=D at*
 obtain⟨d,pd,ed⟩:=D
 dsimp only at*
 have h5:=fun _:Unit=>z7b x pd 4 false 91 ed z1f l4.2 (by omega) hw z8L (fun y hy hwy=>z7a y (by omega))
 have l5:=z3a false ed x pd (2,4,false) z1f l4.2
 generalize z1D false ed x pd (2,4,false) z1f=F at*
 obtain⟨f,pf,ef⟩:=F
 dsimp only at*
 have h6:=fun _:Unit=>z7b x pf 5 false 91 ef z1f l5.2 (by omega) hw z8L (fun y hy hwy=>z7a y (by omega))
 generalize z1D false ef x pf (2,5,false) z1f=G at*
 obtain⟨g,pg,eg⟩:=G
 dsimp only at*
 rcases a with _ |⟨w1,w2⟩
 ·change Ct _ _ _ _ (.c (.lf (.v (.pointer none)))) _ _ at h1
  change Ct _ _ _ _ (.agg [.lf (.v (.pointer none)),_,_,_,_,_]) _ _
  refine z00 Tryz.func89 rfl rfl rfl rfl rfl (fun E hn hb=>?_)
  have ct:=h2 ()
  repeat refine nx ?_
  clear ct
  have ct:=h3 ()
  repeat refine nx ?_
  clear ct
  have ct:=h5 ()
  repeat refine nx ?_
  clear ct
  have ct:=h6 ()
  repeat refine nx ?_
  exact rt1 []
 ·change Ct _ _ _ _ (.c (.lf (.obj [.recs 3 (gnR w1),z2g w2]))) _ _ at h1
  change Ct _ _ _ _ (.agg [.lf (.obj [.recs 3 (gnR w1),z2g w2]),_,_,_,_,_]) _ _
  refine z00 Tryz.func89 rfl rfl rfl rfl rfl (fun E hn hb=>?_)
  have ct:=h2 ()
  repeat refine nx ?_
  clear ct
  have ct:=h3 ()
  repeat refine nx ?_
  clear ct
  have ct:=h5 ()
  repeat refine nx ?_
  clear ct
  have ct:=h6 ()
  repeat refine nx ?_
  exact rt1 []
theorem zeA (x:List Int):z89 x=(if(z2T x).2.2=0 then(if(z2T x).2.1<x.length then(sc0,7) else if z3E (z2T x).1=true then((z2T x).1,0) else(sc0,6)) else(sc0,(z2T x).2.2)):=by
 unfold z89 z2T z1D
 rw[if_pos rfl,z6o none x 0 (2,0,true) z9P]
 dsimp only
 generalize z0l none x 0 (2,0,true) z3L=A
 obtain⟨a,pa,ea⟩:=A
 dsimp only
 by_cases h1:ea=0
 ·subst h1
  rw[if_pos rfl]
  simp only[if_true]
  generalize z0l false x pa (2,1,false) z1f=B
  obtain⟨b,pb,eb⟩:=B
  dsimp only
  by_cases h2:eb=0
  ·subst h2
   simp only[if_true]
   generalize z0l false x pb (2,2,false) z1f=C
   obtain⟨c,pc,ec⟩:=C
   dsimp only
   by_cases h3:ec=0
   ·subst h3
    simp only[if_true]
    generalize z0l [] x pc (2,3,false) z2b=D
    obtain⟨d,pd,ed⟩:=D
    dsimp only
    by_cases h4:ed=0
    ·subst h4
     simp only[if_true]
     generalize z0l false x pd (2,4,false) z1f=F
     obtain⟨f,pf,ef⟩:=F
     dsimp only
     by_cases h5:ef=0
     ·subst h5
      simp only[if_true]
     ·simp only[if_neg h5]
    ·simp only[if_neg h4]
   ·simp only[if_neg h3]
  ·simp only[if_neg h2]
 ·simp only[if_neg h1]
theorem zoF (x:List Int):(z2T x).2.1≤x.length:=by
 unfold z2T
 dsimp only
 exact(z3a _ _ _ _ _ _ (z3a _ _ _ _ _ _ (z3a _ _ _ _ _ _ (z3a _ _ _ _ _ _ (z3a _ _ _ _ _ _ (z3a _ _ _ _ _ _ (Nat.zero_le _)).2).2).2).2).2).2
theorem zhF {x:List Int} (hw:WfB x) (hl:x.length≤11760000):z4M (z2T x).1.1∧(z2T x).1.2.2.length≤32:=by
 have e1:z4M (z1D none 0 x 0 (2,0,true) z3D).1:=by
  rcases z9O none 0 x 0 (2,0,true) z3D with h |⟨y,h1,h2,h3,h⟩
  ·rw[h]; trivial
  ·rw[h]; exact zgy (fun z hz=>hw z (h2 z hz)) (by omega)
 have e2:∀(e:Int) (p:Nat),(z1D [] e x p (2,3,false) z2b).1.length≤32:=fun e p=>by
  rcases z9O [] e x p (2,3,false) z2b with h |⟨y,h1,h2,h3,h⟩
  ·rw[h]; simp
  ·rw[h]; exact zcD y
 unfold z2T
 exact⟨e1,e2 _ _⟩
theorem z50:z2M (.agg [.lf (.v (.pointer none)),.lf (.v (.bool false)),.lf (.v (.bool false)),.lf (.v (.bool false)),.lf (.v (.bool false)),z45]) (z6X none (false,false,false,false) []):=⟨.inl rfl,.inl rfl,.inl rfl,.inl rfl,.inl rfl,.inr ⟨rfl,.inl ⟨_,rfl⟩⟩,trivial⟩
abbrev zr4 (s:ScT):Av:=z6X s.1 s.2.1 s.2.2
set_option maxHeartbeats 4000000 in
theorem zhG (l:List Int) (p:Nat) (hp:p≤l.length) (hl:l.length≤11760000) (hw:WfB l):Ct Tryz.prog 88 [.c (.ptr 0 0),.c (.fn (.func 89) [] []),.c (.fn (.func 32) [] [])] [z05 l p] (.tup [zr4 (z1P l p).1,lv (.int .i64 (z1P l p).2.2)]) [z05 l (z1P l p).2.1] []:=by
 have hop:=z2m l p (ofT 16) hp (by omega) hw
 have hoe:=z31 l p (ofT 16) hp (by omega) hw
 have hmem:=z0H l p (ofT 16)
 have hof:=z1G 16
 have hat:=z1W l p
 have hle0:=z3Q l p (ofT 16) hp
 unfold z1P
 dsimp only
 generalize z0m l p (ofT 16)=X at*
 obtain⟨x,q,e⟩:=X
 dsimp only at*
 by_cases he:e=0
 ·subst he
  have hop:=hop rfl
  rw[if_pos rfl]
  have hbk:=z24 l q p hle0.1 (by omega)
  have hwx:WfB x:=fun z hz=>hw z (hmem.2 z hz)
  have hr:=zjU x (by omega) hwx
  have hbb:=zhF hwx (by omega)
  have hB:=z6Y (z2T x).1.1 (z2T x).1.2.1 (z2T x).1.2.2 hbb.1 (by omega)
  have hle:=zoF x
  rw[zeA]
  have hlf:=z1b x (z2T x).2.1 hle (by omega)
  generalize z2T x=R at*
  obtain⟨⟨w,f,r⟩,s,fe⟩:=R
  dsimp only at*
  generalize z3E (w,f,r)=K at*
  obtain⟨f1,f2,f3,f4⟩:=f
  rcases w with _ |⟨w1,w2⟩
  ·change Ct _ _ _ _ (.agg [.lf (.v (.pointer none)),.lf (.v (.bool f1)),.lf (.v (.bool f2)),.lf (.v (.bool f3)),.lf (.v (.bool f4)),.lf (.ints .i64 r)]) _ _ at hr
   change Ct _ _ [.agg [.lf (.v (.pointer none)),.lf (.v (.bool f1)),.lf (.v (.bool f2)),.lf (.v (.bool f3)),.lf (.v (.bool f4)),.lf (.ints .i64 r)]] _ _ _ _ at hB
   by_cases hf:fe=0
   ·subst hf
    rw[if_pos rfl]
    by_cases hlt:s<x.length
    ·rw[if_pos hlt]
     refine z00 Tryz.func88 rfl rfl rfl rfl rfl (fun E hn hb=>?_)
     repeat refine nx ?_
     refine rtU [] (hu:=?_)
     exact⟨z50,.inl rfl,trivial⟩
    ·rw[if_neg hlt]
     cases K with
     | true=>
       refine z00 Tryz.func88 rfl rfl rfl rfl rfl (fun E hn hb=>?_)
       repeat refine nx ?_
       exact rt1 []
     | false=>
       refine z00 Tryz.func88 rfl rfl rfl rfl rfl (fun E hn hb=>?_)
       repeat refine nx ?_
       refine rtU [] (hu:=?_)
       exact⟨z50,.inl rfl,trivial⟩
   ·rw[if_neg hf,if_neg hf]
    refine z00 Tryz.func88 rfl rfl rfl rfl rfl (fun E hn hb=>?_)
    repeat refine nx ?_
    refine rtU [] (hu:=?_)
    exact⟨z50,.inl rfl,trivial⟩
  ·change Ct _ _ _ _ (.agg [.lf (.obj [.recs 3 (gnR w1),z2g w2]),.lf (.v (.bool f1)),.lf (.v (.bool f2)),.lf (.v (.bool f3)),.lf (.v (.bool f4)),.lf (.ints .i64 r)]) _ _ at hr
   change Ct _ _ [.agg [.lf (.obj [.recs 3 (gnR w1),z2g w2]),.lf (.v (.bool f1)),.lf (.v (.bool f2)),.lf (.v (.bool f3)),.lf (.v (.bool f4)),.lf (.ints .i64 r)]] _ _ _ _ at hB
   by_cases hf:fe=0
   ·subst hf
    rw[if_pos rfl]
    by_cases hlt:s<x.length
    ·rw[if_pos hlt]
     refine z00 Tryz.func88 rfl rfl rfl rfl rfl (fun E hn hb=>?_)
     repeat refine nx ?_
     refine rtU [] (hu:=?_)
     exact⟨z50,.inl rfl,trivial⟩
    ·rw[if_neg hlt]
     cases K with
     | true=>
       refine z00 Tryz.func88 rfl rfl rfl rfl rfl (fun E hn hb=>?_)
       repeat refine nx ?_
       exact rt1 []
     | false=>
       refine z00 Tryz.func88 rfl rfl rfl rfl rfl (fun E hn hb=>?_)
       repeat refine nx ?_
       refine rtU [] (hu:=?_)
       exact⟨z50,.inl rfl,trivial⟩
   ·rw[if_neg hf,if_neg hf]
    refine z00 Tryz.func88 rfl rfl rfl rfl rfl (fun E hn hb=>?_)
    repeat refine nx ?_
    refine rtU [] (hu:=?_)
    exact⟨z50,.inl rfl,trivial⟩
 ·have hoe:=hoe he
  rw[if_neg he]
  refine z00 Tryz.func88 rfl rfl rfl rfl rfl (fun E hn hb=>?_)
  repeat refine nx ?_
  refine rtU [] (hu:=?_)
  exact⟨z50,.inl rfl,trivial⟩
theorem z8d (l:List Int) (p:Nat) (hp:p≤l.length) (hl:l.length≤11760000) (hw:WfB l):Ct Tryz.prog 34 [.c (.ptr 0 0)] [z05 l p] (.tup [zr4 (z1P l p).1,lv (.int .i64 (z1P l p).2.2)]) [z05 l (z1P l p).2.1] []:=by
 have hs:=zhG l p hp hl hw
 generalize z1P l p=R at*
 obtain⟨⟨w,⟨f1,f2,f3,f4⟩,r⟩,s,fe⟩:=R
 dsimp only at*
 rcases w with _ |⟨w1,w2⟩
 ·change Ct _ _ _ _ (.tup [.agg [.lf (.v (.pointer none)),.lf (.v (.bool f1)),.lf (.v (.bool f2)),.lf (.v (.bool f3)),.lf (.v (.bool f4)),.lf (.ints .i64 r)],_]) _ _ at hs
  refine z00 Tryz.func34 rfl rfl rfl rfl rfl (fun E hn hb=>?_)
  repeat refine nx ?_
  exact rt1 []
 ·change Ct _ _ _ _ (.tup [.agg [.lf (.obj [.recs 3 (gnR w1),z2g w2]),.lf (.v (.bool f1)),.lf (.v (.bool f2)),.lf (.v (.bool f3)),.lf (.v (.bool f4)),.lf (.ints .i64 r)],_]) _ _ at hs
  refine z00 Tryz.func34 rfl rfl rfl rfl rfl (fun E hn hb=>?_)
  repeat refine nx ?_
  exact rt1 []
end Go.Proofs.YtaagjnlkinojcaaGreat
namespace Go.Proofs.YtaagjnlkinojcaaGreat
set_option linter.unusedSimpArgs false
set_option linter.unusedVariables false
open Go Go.Sx
set_option maxRecDepth 10000
set_option maxHeartbeats 4000000 in
theorem z6j (k:Int) (x:Bool) (t:z0g) (l:List Int) (n:Nat) (us:List Value) (hk:0≤k∧k≤30) (hl:l.length≤14000000) (hu:us.length=5*n) (hn0:0<n) (hnl:n≤800):
  CtM Tryz.prog 81 [.agg [.ptr 0 0],lv (.int .i64 k),lv (.bool x)] [shG t false (.own 1 1 0 l.length) (.own 2 5 0 n) 0,rB l,.fr us []] (.tup []) [shG t false (.own 3 1 0 (l++z0p k x).length) (.own 4 5 0 n) 0,.gone,.gone] [rB (l++z0p k x),.fr us []]:=by
 unfold z0p
 cases x with
 | false=>
   rw[if_neg (by simp),List.append_nil]
   refine z18 Tryz.func81 rfl rfl rfl rfl rfl (fun E hn hb=>?_)
   repeat refine nx ?_
   exact rtM [1,2]
 | true=>
   rw[if_pos rfl]
   have hat:=z1j k false
   have hrt:z0q (2,k,false)=true:=by unfold z0q; dsimp only; rw[decide_eq_true_iff]; omega
   have ho:=z7x t (2,k,false) false l n us hu hn0 (by omega)
   have hpu:=fun(a:Option Addr) (c:Nat)=>z6H (2,k,false) false [] [[255]] a (n+1) c (Nat.le_of_ble_eq_true rfl) (Nat.le_of_ble_eq_true rfl)
   have hsh:=z4p (2,k,false) t false [255] l n us hu hrt (by rw[List.length_singleton]; omega) (by omega)
   generalize z04 (2,k,false) [255]=W at*
   refine z18 Tryz.func81 rfl rfl rfl rfl rfl (fun E hn hb=>?_)
   repeat refine nxw ?_
   refine duF [75] [(4,0),(4,1),(4,2),(4,75)] ?_
   repeat (first | refine nx ?_ | refine zaI [0,1,2] hn ho ?_)
   refine z66 (fun a w h=>SR.cell_nil 0 4 900 rfl rfl rfl rfl rfl h) ?_
   repeat refine nx ?_
   refine z1O (l:= [(3,.c (.ptr 67 0))]) (hs:= [(0,shG (2,k,false) false (.own 80 1 0 ([255]:List Int).length) (.own 75 5 0 (n+1)) 0),(1,rB l),(80,rB [255]),(67,.cells [.ptr 0 0]),(75,.fr us (frC t false (.own 1 1 0 l.length)))]) [0,900] 0 5 hpu rfl rfl (by rw[hn]; rfl) rfl (fun _ _=>rfl) rfl rfl (fun _ _=>rfl) (fun _ _=>trivial) (fun _ _=>⟨rfl,⟨rfl,rfl⟩,(by simp[z0e]),rfl⟩) (fun _ _=>rfl) (fun _ _=>rfl) (fun _ _=>by repeat' (first | exact trivial | exact rfl | exact congrArg (fun x=>lv (.int .i64 x)) (by omega) | refine⟨?_,?_⟩)) ?_
   repeat refine nx ?_
   refine z74 80 0 ?_
   refine z3d [0,75,1] hsh rfl rfl (by rw[hn]; rfl) rfl rfl (by trivial) ⟨rfl,⟨rfl,rfl,rfl⟩,(by simp[z0e]),rfl⟩ ?_
   repeat refine nx ?_
   exact rtN [83,75]
end Go.Proofs.YtaagjnlkinojcaaGreat

/-
  Chapter 5: how many bits, one of them. The conditions: rows of bytes that a machine can hold.
-/
import Derived.Test.YtaagjnlkinojcaaGreatQ8
import Derived.Test.YtaagjnlkinojcaaGreatA6
import Derived.Test.YtaagjnlkinojcaaGreatQ3
namespace Go.Proofs.YtaagjnlkinojcaaGreat
set_option linter.unusedSimpArgs false
set_option linter.unusedVariables false
open Go.Sx
set_option maxRecDepth 10000
abbrev z45:Cell:= .lf (.v (.slice none 0 0))
theorem z2u:z2M (.agg [.lf (.v (.int .i64 0)),z45,z45]) (gnA gn0):=⟨.inl rfl,.inr ⟨rfl,.inl ⟨_,rfl⟩⟩,.inr ⟨rfl,.inr ⟨_,rfl⟩⟩,trivial⟩
theorem zaj (k:Int) (b:List Int):z2M (.agg [.lf (.v (.int .i64 k)),.lf (.ints .u8 b),z45]) (gnA (k,b,[])):=⟨.inl rfl,.inl rfl,.inr ⟨rfl,.inr ⟨_,rfl⟩⟩,trivial⟩
theorem zak (k:Int) (n:List (List AtT)):z2M (.agg [.lf (.v (.int .i64 k)),z45,.lf (nmL n)]) (gnA (k,[],n)):=⟨.inl rfl,.inr ⟨rfl,.inl ⟨_,rfl⟩⟩,.inl rfl,trivial⟩
theorem zaP:NmB []:=⟨by simp,fun r hr=>by simp at hr⟩
theorem zaQ {l:List Int} (hw:WfB l) (r n:Nat):WfB ((l.drop r).take n):=fun z hz=>hw z (List.mem_of_mem_drop (List.mem_of_mem_take hz))
theorem zez {n:List (List AtT)}:z0F (4,[],n)=z15 n:=by
 unfold z0F
 simp
theorem zpL {k:Int} {b:List Int} {g:GnT} (hw:WfB b) (hl:b.length≤12000000) (h:z5Z k b=(g,0)):GnB g:=by
 unfold z5Z at h
 by_cases hk:k=4
 ·rw[if_pos hk] at h
  have hB:= @zbX b (z3v b).1 hw hl
  generalize z3v b=M at*
  obtain⟨m,e⟩:=M
  dsimp only at h hB
  by_cases he:e=0
  ·subst he
   rw[if_pos rfl] at h
   by_cases ho:z0F (4,[],m)=true
   ·rw[if_pos ho] at h
    simp only[Prod.mk.injEq] at h
    obtain⟨rfl,_⟩:=h
    exact⟨by simp,fun z hz=>by simp at hz,(hB rfl).2⟩
   ·rw[if_neg ho] at h; simp at h
  ·rw[if_neg he] at h
   simp only[Prod.mk.injEq] at h
   exact absurd h.2 he
 ·rw[if_neg hk] at h
  by_cases ho:z0F (k,b,[])=true
  ·rw[if_pos ho] at h
   simp only[Prod.mk.injEq] at h
   obtain⟨rfl,_⟩:=h
   exact⟨hl,hw,zaP⟩
  ·rw[if_neg ho] at h; simp at h
abbrev gnE (g:GnT) (e:Int):Av:= .tup [gnA g,lv (.int .i64 e)]
set_option maxHeartbeats 16000000 in
theorem zjQ (l:List Int) (p:Nat) (hp:p≤l.length) (hl:l.length≤12000000) (hw:WfB l):Ct Tryz.prog 165 [.c (.ptr 0 0)] [z05 l p] (gnE (z1u l p).1 (z1u l p).2.2) [z05 l (z1u l p).2.1] []:=by
 have hr:=z59 l p hp (by omega) hw
 have hle:=z17 l p hp
 have hpos:=z1V l p hw
 unfold z1u
 generalize z0a l p=R at*
 obtain⟨⟨⟨c,k,m⟩,n⟩,r,e⟩:=R
 dsimp only at*
 by_cases he:e=0
 ·subst he
  rw[if_pos rfl]
  have hmd:=zbY k
  by_cases hc:c=2
  ·by_cases h8:8<k
   ·rw[if_pos (.inr (.inl h8))]
    generalize z1n k=M at*
    subst hc
    refine z00 Tryz.func165 rfl rfl rfl rfl rfl (fun E hn hb=>?_)
    repeat refine nx ?_
    refine rtU [] (hu:=?_)
    exact⟨z2u,.inl rfl,trivial⟩
   ·by_cases hm:m=z1n k
    ·rw[if_neg (by rintro(h | h | h); exact h hc; exact h8 h; exact h hm)]
     subst hc
     rw[←hm] at hmd
     obtain⟨N,rfl⟩:∃ N:Nat,n=N:=⟨n.toNat,by omega⟩
     by_cases hN:(l.length:Int) -r<N
     ·rw[if_pos hN]
      have htk:=z8Y l r N (by omega) hle.2 hN (by omega)
      clear hm
      refine z00 Tryz.func165 rfl rfl rfl rfl rfl (fun E hn hb=>?_)
      repeat refine nx ?_
      refine rtU [] (hu:=?_)
      exact⟨z2u,.inl rfl,trivial⟩
     ·rw[if_neg hN,Int.toNat_natCast]
      have htk:=z6r l r N (by omega) (by omega)
      have hwb:=zaQ hw r N
      have hlb:((l.drop r).take N).length≤12000000:=by simp; omega
      clear hm
      generalize (l.drop r).take N=b at*
      unfold z5Z
      by_cases hk:k=4
      ·subst hk
       rw[if_pos rfl]
       have hpa:=zfU b hlb hwb
       have hB:= @zbX b (z3v b).1 hwb hlb
       generalize z3v b=A at*
       obtain⟨a,f⟩:=A
       dsimp only at hpa hB ⊢
       by_cases hf:f=0
       ·subst hf
        obtain⟨b1,b2⟩:=hB rfl
        have hg:=z9B (args':= [.agg [.lf (.v (.int .i64 4)),z45,.lf (nmL a)]]) (z5a (4,[],a) ⟨by simp,fun z hz=>by simp at hz,b2⟩) ⟨zak 4 a,trivial⟩
        rw[if_pos rfl]
        have hgo:z0F (4,[],a)=true:=zez.trans b1
        rw[hgo] at hg
        rw[if_pos hgo]
        refine z00 Tryz.func165 rfl rfl rfl rfl rfl (fun E hn hb=>?_)
        repeat refine nx ?_
        refine rtU [] (hu:=?_)
        exact⟨zak 4 a,.inl rfl,trivial⟩
       ·rw[if_neg hf]
        refine z00 Tryz.func165 rfl rfl rfl rfl rfl (fun E hn hb=>?_)
        repeat refine nx ?_
        refine rtU [] (hu:=?_)
        exact⟨z2u,.inl rfl,trivial⟩
      ·rw[if_neg hk]
       have hg:=z9B (args':= [.agg [.lf (.v (.int .i64 k)),.lf (.ints .u8 b),z45]]) (z5a (k,b,[]) ⟨hlb,hwb,zaP⟩) ⟨zaj k b,trivial⟩
       by_cases hgo:z0F (k,b,[])=true
       ·rw[hgo] at hg
        rw[if_pos hgo]
        refine z00 Tryz.func165 rfl rfl rfl rfl rfl (fun E hn hb=>?_)
        repeat refine nx ?_
        refine rtU [] (hu:=?_)
        exact⟨zaj k b,.inl rfl,trivial⟩
       ·rw[Bool.eq_false_iff.2 hgo] at hg
        rw[if_neg hgo]
        refine z00 Tryz.func165 rfl rfl rfl rfl rfl (fun E hn hb=>?_)
        repeat refine nx ?_
        refine rtU [] (hu:=?_)
        exact⟨z2u,.inl rfl,trivial⟩
    ·rw[if_pos (.inr (.inr hm))]
     subst hc
     generalize z1n k=M at*
     obtain rfl:M=!m:=by cases m<;>cases M<;>simp_all
     cases m with
     | false=>
       refine z00 Tryz.func165 rfl rfl rfl rfl rfl (fun E hn hb=>?_)
       repeat refine nx ?_
       refine rtU [] (hu:=?_)
       exact⟨z2u,.inl rfl,trivial⟩
     | true=>
       refine z00 Tryz.func165 rfl rfl rfl rfl rfl (fun E hn hb=>?_)
       repeat refine nx ?_
       refine rtU [] (hu:=?_)
       exact⟨z2u,.inl rfl,trivial⟩
  ·rw[if_pos (.inl hc)]
   generalize z1n k=M at*
   refine z00 Tryz.func165 rfl rfl rfl rfl rfl (fun E hn hb=>?_)
   repeat refine nx ?_
   refine rtU [] (hu:=?_)
   exact⟨z2u,.inl rfl,trivial⟩
 ·rw[if_neg he]
  refine z00 Tryz.func165 rfl rfl rfl rfl rfl (fun E hn hb=>?_)
  repeat refine nx ?_
  refine rtU [] (hu:=?_)
  exact⟨z2u,.inl rfl,trivial⟩
abbrev gnR (l:List GnT):List (List Leaf):=l.map gnL
abbrev gnV (l:List GnT):Av:= .c (.lf (.recs 3 (gnR l)))
theorem z3S (l:List GnT) (g:GnT):gnR (l++ [g])=gnR l++ [gnL g]:=List.map_append
theorem zdp {x:List Int} {p q:Nat} {g:GnT} (hw:WfB x) (hp:p≤x.length) (h:z1u x p=(g,q,0)):p<q:=by
 have hle:=z5B x p hp
 obtain⟨_,h2⟩:=zbB hw h
 rw[h] at hle
 dsimp only at hle
 have hpos:0<(z0r g).length:=z1U _ _
 have hlen:=congrArg List.length h2
 rw[List.length_append,List.length_drop,List.length_drop] at hlen
 omega
set_option maxHeartbeats 8000000 in
theorem zlf (l:List Int) (hl:l.length≤12000000) (hw:WfB l):Ct Tryz.prog 121 [.c (.ptr 0 0)] [z05 l 0] (.tup [gnV (z0Q l).1,lv (.int .i64 (z0Q l).2.2)]) [z05 l (z0Q l).2.1] []:=by
 have hlf0:=z1b l 0 (Nat.zero_le _) (by omega)
 by_cases h0:l= []
 ·unfold z0Q
  rw[if_pos (by rw[h0]; rfl)]
  subst h0
  refine z00 Tryz.func121 rfl rfl rfl rfl rfl (fun E hn hb=>?_)
  repeat refine nx ?_
  exact rtU []
 obtain⟨R,hR⟩:∃ R,z0Q l=R:=⟨_,rfl⟩
 rw[hR]
 unfold z0Q at hR
 have hpos:0<l.length:=List.length_pos_iff.2 h0
 rw[if_neg (by omega)] at hR
 refine z00 Tryz.func121 rfl rfl rfl rfl rfl (fun E hn hb=>?_)
 repeat refine nx ?_
 refine z0N 4 900 3 (.recs 3 []) rfl rfl (.inr (.inr ⟨_,rfl⟩)) ?_
 refine z09 (St.le_of (l:= [(0,.c (.ptr 0 0)),(4,.c (.own 900 3 0 (gnR []).length))]) (h:= [(0,z05 l 0),(900,.row (.recs 3 (gnR [])))]) (by refine⟨?_,?_⟩<;>(repeat' (first | exact trivial | exact rfl | refine⟨?_,?_⟩))<;>first | exact rfl |(simp; done) | skip)) ?_
 refine z0h (ι:= {s:Nat×Nat×List GnT//s.2.1≤l.length∧l.length -s.2.1<s.1∧s.2.2.length≤10000∧z2O l s.1 s.2.1 s.2.2=R}) (fun s=>St.of [(0,.c (.ptr 0 0)),(4,.c (.own 900 3 0 (gnR s.1.2.2).length))] [(0,z05 l s.1.2.1),(900,.row (.recs 3 (gnR s.1.2.2)))]) (fun s=>s.1.1) (fun s=>?_) ⟨(l.length+1,0,[]),Nat.zero_le _,by dsimp only; omega,by simp,hR⟩
 obtain⟨⟨f,pp,acc⟩,hpp,hf,h16,hx⟩:=s
 dsimp only at hpp hf h16 hx ⊢
 obtain⟨f,rfl⟩:∃ m,f=m+1:=⟨f -1,by omega⟩
 have hml:(gnR acc).length=acc.length:=List.length_map ..
 have hlf:=z1b l pp hpp (by omega)
 rw[z2O] at hx
 by_cases hlt:pp<l.length
 ·rw[if_pos hlt] at hx
  by_cases h6:acc.length=10000
  ·rw[if_pos h6] at hx
   subst hx
   repeat refine nx ?_
   exact rtU []
  ·rw[if_neg h6] at hx
   have hrd:=zjQ l pp hpp (by omega) hw
   have hle:=z5B l pp hpp
   have hps:= @zdp l pp (z1u l pp).2.1 (z1u l pp).1 hw hpp
   generalize z1u l pp=S at*
   obtain⟨g,q1,e1⟩:=S
   dsimp only at hrd hx hle hps
   by_cases he1:e1=0
   ·subst he1
    rw[if_pos rfl] at hx
    have hps:=hps rfl
    obtain⟨k,b,n⟩:=g
    repeat refine nx ?_
    refine z07 ⟨(f,q1,acc++ [(k,b,n)]),hle.2,by dsimp only; omega,by simp; omega,hx⟩ (by dsimp only; omega) (St.le_of ⟨⟨rfl,?_⟩,⟨rfl,?_⟩⟩)
    ·dsimp only; rw[z3S]; rfl
    ·dsimp only; rw[z3S]; rfl
   ·rw[if_neg he1] at hx
    subst hx
    repeat refine nx ?_
    exact rtU []
 ·rw[if_neg hlt] at hx
  subst hx
  repeat refine nx ?_
  refine z2d 2 ?_
  exact rt1 []
abbrev zjR (x:List GnT) (e:Int):Av:= .tup [gnV x,lv (.int .i64 e)]
theorem zdq (l:List Int):(z0Q l).2.1≤l.length:=by
 unfold z0Q
 split
 ·exact Nat.zero_le _
 ·exact(zda l _ 0 [] (Nat.zero_le _)).2
def z2n (l:List Int):List GnT×Nat×Int:=z0M [] 0 (z0Q l)
theorem zdL (l:List Int) (hl:l.length≤12000000) (hw:WfB l):Ct Tryz.prog 56 [.c (.ptr 0 0)] [z05 l 0] (zjR (z2n l).1 (z2n l).2.2) [z05 l (z2n l).2.1] []:=by
 have h:=zlf l hl hw
 have hle:=zdq l
 have hat:=z1W l 0
 have hk:Ct Tryz.prog 120 [.c (.ptr 0 0),.c (.fn (.func 121) [] [])] [z05 l 0] (zjR (z2n l).1 (z2n l).2.2) [z05 l (z2n l).2.1] []:=by
  unfold z2n
  generalize z0Q l=R at*
  obtain⟨x,q,e⟩:=R
  dsimp only at*
  by_cases he:e=0
  ·subst he
   rw[z2s _ _ _ rfl]
   refine z00 Tryz.func120 rfl rfl rfl rfl rfl (fun E hn hb=>?_)
   repeat refine nx ?_
   exact rt1 []
  ·rw[z1v _ _ _ he]
   have hbk:=z24 l q 0 (Nat.zero_le _) (by omega)
   refine z00 Tryz.func120 rfl rfl rfl rfl rfl (fun E hn hb=>?_)
   repeat refine nx ?_
   exact rtU []
 refine z00 Tryz.func56 rfl rfl rfl rfl rfl (fun E hn hb=>?_)
 repeat refine nx ?_
 exact rt1 []
theorem zhD {b:List Int} (h:∀ j,j<b.length→b.getD j 0≤127):z3x b=decide (0<b.length):=by
 unfold z3x
 rw[z9Y (p:=fun x=>decide (x≤127)) (d:=0) fun j hj=>decide_eq_true (h j hj),Bool.and_true]
theorem zfP {b:List Int} {j:Nat} (hj:j<b.length) (h:127<b.getD j 0):z3x b=false:=by
 unfold z3x
 rw[z80 (p:=fun x=>decide (x≤127)) (d:=0) hj (fun hh=>by rw[decide_eq_true_eq] at hh; omega),Bool.and_false]
abbrev gnB (k:Int) (b:List Int) (n:List (List AtT)):Blk:= .cells [.lf (.v (.int .i64 k)),.lf (.ints .u8 b),.lf (nmL n)]
set_option maxHeartbeats 16000000 in
theorem z7y (g:GnT) (h:GnB g):Ct Tryz.prog 154 [gnA g] [] (lv (.bool (z0F g))) [] []:=by
 obtain⟨k,b,n⟩:=g
 obtain⟨hl,hw,hn1⟩:=h
 dsimp only at hl hw hn1
 have hr:=zdG n hn1
 have hml:(nmR n).length=n.length:=List.length_map ..
 unfold z0F
 dsimp only
 by_cases hk:k=4
 ·subst hk
  rw[if_pos rfl]
  generalize z15 n=N at*
  refine z00 Tryz.func154 rfl rfl rfl rfl rfl (fun E hn hb=>?_)
  repeat refine nx ?_
  refine rt2 [] (congrArg (fun x=>lv (.bool x)) ?_) trivial
  by_cases h0:b.length=0
  ·simp[h0]
  ·rw[show((b.length:Int)==0)=false by rw[beq_eq_false_iff_ne]; omega]
   simp[h0]
 rw[if_neg hk]
 by_cases hn0:n.length=0
 ·obtain rfl:=List.eq_nil_of_length_eq_zero hn0
  rw[decide_eq_true hn0,Bool.true_and]
  clear hr hml
  by_cases hp:k=1∨k=2∨k=6
  ·have hcg:z4g k b=z3x b:=if_pos hp
   rw[hcg]
   obtain⟨B,hB⟩:∃ B,z3x b=B:=⟨_,rfl⟩
   rw[hB]
   rcases hp with rfl | rfl | rfl
   all_goals
    refine z00 Tryz.func154 rfl rfl rfl rfl rfl (fun E hn hb=>?_)
    repeat refine nx ?_
    refine z09 (St.le_of (l:= [(1,.c (.ptr 65 0)),(3,lv (.int .i64 (b.length:Int))),(4,lv (.int .i64 ((0:Nat):Int)))]) (h:= [(65,gnB _ b [])]) (by refine⟨?_,?_⟩<;>(repeat' (first | exact trivial | exact rfl | refine⟨?_,?_⟩))<;>first | exact rfl |(simp; done) | skip)) ?_
    refine z0h (ι:= {i:Nat//i≤b.length∧∀ j,j<i→b.getD j 0≤127}) (fun i=>St.of [(1,.c (.ptr 65 0)),(3,lv (.int .i64 (b.length:Int))),(4,lv (.int .i64 (i.1:Int)))] [(65,gnB _ b [])]) (fun i=>b.length -i.1) (fun i=>?_) ⟨0,Nat.zero_le _,fun j hj=>by omega⟩
    obtain⟨i,hi,hu⟩:=i
    dsimp only
    by_cases hi2:i<b.length
    ·have hq:b.getD (i:Int).toNat 0=b.getD i 0:=rfl
     have hno:= @zfP b i hi2
     by_cases hx:127<b.getD i 0
     ·rw[hno hx] at hB
      subst hB
      clear hno
      generalize b.getD i 0=X at*
      repeat (first | refine nx ?_ | rw[hq])
      exact rt1 []
     ·clear hno
      generalize hX:b.getD i 0=X at*
      repeat (first | refine nx ?_ | rw[hq])
      refine z07 ⟨i+1,hi2,fun j hj=>by
       by_cases e:j=i
       ·subst e; omega
       ·exact hu j (by omega)⟩ (by dsimp only; omega) (St.le_of ⟨⟨rfl,rfl,rfl⟩,rfl⟩)
    ·obtain rfl:i=b.length:=by omega
     rw[zhD hu] at hB
     subst hB
     repeat refine nx ?_
     refine rt2 [] (congrArg (fun x=>lv (.bool x)) ?_) trivial
     rw[Bool.eq_iff_iff]
     simp
  by_cases h7:k=7
  ·subst h7
   show Ct _ _ _ _ (lv (.bool (decide (b.length=4)||decide (b.length=16)))) _ _
   refine z00 Tryz.func154 rfl rfl rfl rfl rfl (fun E hn hb=>?_)
   repeat refine nx ?_
   refine rt2 [] (congrArg (fun x=>lv (.bool x)) ?_) trivial
   by_cases h4:b.length=4
   ·simp[h4]
   ·by_cases h16:b.length=16
    ·simp[h16]
    ·rw[show((b.length:Int)==4)=false by rw[beq_eq_false_iff_ne]; omega,show((b.length:Int)==16)=false by rw[beq_eq_false_iff_ne]; omega]
     simp[h4,h16]
  have ho:=za2 b (by omega) hw
  have hh:=z5X b 0 (Nat.zero_le _) hl hw
  by_cases h8:k=8
  ·subst h8
   show Ct _ _ _ _ (lv (.bool (decide ((z2w b).2=0)))) _ _
   refine z00 Tryz.func154 rfl rfl rfl rfl rfl (fun E hn hb=>?_)
   repeat refine nx ?_
   exact rt1 []
  by_cases h05:k=0∨k=3∨k=5
  ·have hcg:z4g k b=z4v b:=by
    unfold z4g
    rw[if_neg hp,if_neg h7,if_neg h8,if_pos h05]
   rw[hcg]
   unfold z4v
   generalize z12 b 0=W at*
   obtain⟨rs,e⟩:=W
   dsimp only at*
   rcases h05 with rfl | rfl | rfl
   all_goals
    refine z00 Tryz.func154 rfl rfl rfl rfl rfl (fun E hn hb=>?_)
    repeat refine nx ?_
    refine rt2 [] (congrArg (fun x=>lv (.bool x)) ?_) trivial
    by_cases he:e=0
    ·simp[he]
    ·simp[he]
  ·have hcg:z4g k b=false:=by
    unfold z4g
    rw[if_neg hp,if_neg h7,if_neg h8,if_neg h05]
   rw[hcg]
   have k1:k≠1:=fun e=>hp (.inl e)
   have k2:k≠2:=fun e=>hp (.inr (.inl e))
   have k6:k≠6:=fun e=>hp (.inr (.inr e))
   have k0:k≠0:=fun e=>h05 (.inl e)
   have k3:k≠3:=fun e=>h05 (.inr (.inl e))
   have k5:k≠5:=fun e=>h05 (.inr (.inr e))
   refine z00 Tryz.func154 rfl rfl rfl rfl rfl (fun E hn hb=>?_)
   repeat refine nx ?_
   exact rt1 []
 ·have hpos:0<n.length:=by omega
  rw[decide_eq_false hn0,Bool.false_and]
  refine z00 Tryz.func154 rfl rfl rfl rfl rfl (fun E hn hb=>?_)
  repeat refine nx ?_
  exact rt1 []
abbrev zxp (g:GnT) (q e:Int):Av:= .tup [gnA g,lv (.int .i64 q),lv (.int .i64 e)]
set_option maxHeartbeats 32000000 in
theorem zhE (l:List Int) (p:Nat) (hp:p≤l.length) (hl:l.length≤12000000) (hw:WfB l):Ct Tryz.prog 126 [B8 l,lv (.int .i64 (p:Int))] [] (zxp (z88 l p).1 ((z88 l p).2.1:Int) (z88 l p).2.2) [] []:=by
 have hr:=z3o l p hp (by omega) hw
 have hle:=z17 l p hp
 have hpos:=z1V l p hw
 unfold z88 z1u
 generalize z0a l p=R at*
 obtain⟨⟨⟨c,k,m⟩,n⟩,r,e⟩:=R
 dsimp only at*
 by_cases he:e=0
 ·subst he
  rw[if_pos rfl]
  have hmd:=zaV k
  by_cases hc:c=2
  ·by_cases h8:8<k
   ·rw[if_pos (.inr (.inl h8)),z1v _ _ _ (by simp)]
    generalize z1n k=M at*
    subst hc
    refine z00 Tryz.func126 rfl rfl rfl rfl rfl (fun E hn hb=>?_)
    repeat refine nx ?_
    refine rtU [] (hu:=?_)
    exact⟨z2u,.inl rfl,.inl rfl,trivial⟩
   ·by_cases hm:m=z1n k
    ·rw[if_neg (by rintro(h | h | h); exact h hc; exact h8 h; exact h hm)]
     subst hc
     rw[←hm] at hmd
     obtain⟨N,rfl⟩:∃ N:Nat,n=N:=⟨n.toNat,by omega⟩
     by_cases hN:(l.length:Int) -r<N
     ·rw[if_pos hN,z1v _ _ _ (by simp)]
      clear hm
      refine z00 Tryz.func126 rfl rfl rfl rfl rfl (fun E hn hb=>?_)
      repeat refine nx ?_
      refine rtU [] (hu:=?_)
      exact⟨z2u,.inl rfl,.inl rfl,trivial⟩
     ·rw[if_neg hN,Int.toNat_natCast]
      have hwb:=zaQ hw r N
      have hlb:((l.drop r).take N).length≤12000000:=by simp; omega
      have hcut:(l.take ((r:Int)+(N:Int)).toNat).drop (r:Int).toNat=(l.drop r).take N:=by
       rw[Int.toNat_natCast,show((r:Int)+(N:Int)).toNat=r+N by omega,List.drop_take]
       congr 1
       omega
      clear hm
      generalize hbb:(l.drop r).take N=b at*
      unfold z5Z
      by_cases hk:k=4
      ·subst hk
       rw[if_pos rfl]
       have hpa:=zdu b hlb hwb
       have hB:= @zbX b (z3v b).1 hwb hlb
       generalize z3v b=A at*
       obtain⟨a,f⟩:=A
       dsimp only at hpa hB ⊢
       by_cases hf:f=0
       ·subst hf
        obtain⟨b1,b2⟩:=hB rfl
        have hg:=z9B (args':= [.agg [.lf (.v (.int .i64 4)),z45,.lf (nmL a)]]) (z7y (4,[],a) ⟨by simp,fun z hz=>by simp at hz,b2⟩) ⟨zak 4 a,trivial⟩
        rw[if_pos rfl]
        have hgo:z0F (4,[],a)=true:=zez.trans b1
        rw[hgo] at hg
        rw[if_pos hgo,z2s _ _ _ rfl]
        refine z00 Tryz.func126 rfl rfl rfl rfl rfl (fun E hn hb=>?_)
        repeat (first | refine nx ?_ | rw[hcut])
        refine rtU [] (hu:=?_)
        exact⟨zak 4 a,.inl rfl,.inl rfl,trivial⟩
       ·rw[if_neg hf,z1v _ _ _ hf]
        refine z00 Tryz.func126 rfl rfl rfl rfl rfl (fun E hn hb=>?_)
        repeat (first | refine nx ?_ | rw[hcut])
        refine rtU [] (hu:=?_)
        exact⟨z2u,.inl rfl,.inl rfl,trivial⟩
      ·rw[if_neg hk]
       have hg:=z9B (args':= [.agg [.lf (.v (.int .i64 k)),.lf (.ints .u8 b),z45]]) (z7y (k,b,[]) ⟨hlb,hwb,zaP⟩) ⟨zaj k b,trivial⟩
       by_cases hgo:z0F (k,b,[])=true
       ·rw[hgo] at hg
        rw[if_pos hgo,z2s _ _ _ rfl]
        refine z00 Tryz.func126 rfl rfl rfl rfl rfl (fun E hn hb=>?_)
        repeat (first | refine nx ?_ | rw[hcut])
        refine rtU [] (hu:=?_)
        exact⟨zaj k b,.inl rfl,.inl rfl,trivial⟩
       ·rw[Bool.eq_false_iff.2 hgo] at hg
        rw[if_neg hgo,z1v _ _ _ (by simp)]
        refine z00 Tryz.func126 rfl rfl rfl rfl rfl (fun E hn hb=>?_)
        repeat (first | refine nx ?_ | rw[hcut])
        refine rtU [] (hu:=?_)
        exact⟨z2u,.inl rfl,.inl rfl,trivial⟩
    ·rw[if_pos (.inr (.inr hm)),z1v _ _ _ (by simp)]
     subst hc
     generalize z1n k=M at*
     obtain rfl:M=!m:=by cases m<;>cases M<;>simp_all
     cases m with
     | false=>
       refine z00 Tryz.func126 rfl rfl rfl rfl rfl (fun E hn hb=>?_)
       repeat refine nx ?_
       refine rtU [] (hu:=?_)
       exact⟨z2u,.inl rfl,.inl rfl,trivial⟩
     | true=>
       refine z00 Tryz.func126 rfl rfl rfl rfl rfl (fun E hn hb=>?_)
       repeat refine nx ?_
       refine rtU [] (hu:=?_)
       exact⟨z2u,.inl rfl,.inl rfl,trivial⟩
  ·rw[if_pos (.inl hc),z1v _ _ _ (by simp)]
   generalize z1n k=M at*
   refine z00 Tryz.func126 rfl rfl rfl rfl rfl (fun E hn hb=>?_)
   repeat refine nx ?_
   refine rtU [] (hu:=?_)
   exact⟨z2u,.inl rfl,.inl rfl,trivial⟩
 ·rw[if_neg he,z1v _ _ _ he]
  refine z00 Tryz.func126 rfl rfl rfl rfl rfl (fun E hn hb=>?_)
  repeat refine nx ?_
  refine rtU [] (hu:=?_)
  exact⟨z2u,.inl rfl,.inl rfl,trivial⟩
theorem zjS {l:List Int} {p:Nat} (h:¬ (z1u l p).2.2=0):z88 l p=(gn0,p,(z1u l p).2.2):=by
 unfold z88 z0M
 rw[if_neg h]
theorem zlg {l:List Int} {p:Nat} (h:(z1u l p).2.2=0):z88 l p=z1u l p:=by
 unfold z88 z0M
 rw[if_pos h]
set_option maxHeartbeats 8000000 in
theorem zdr (l:List Int) (hl:l.length≤12000000) (hw:WfB l):Ct Tryz.prog 61 [B8 l,lv (.int .i64 0)] [] (zjR (z0Q l).1 (z0Q l).2.2) [] []:=by
 by_cases h0:l= []
 ·unfold z0Q
  rw[if_pos (by rw[h0]; rfl)]
  subst h0
  refine z00 Tryz.func61 rfl rfl rfl rfl rfl (fun E hn hb=>?_)
  repeat refine nx ?_
  exact rtU []
 obtain⟨R,hR⟩:∃ R,z0Q l=R:=⟨_,rfl⟩
 rw[hR]
 unfold z0Q at hR
 have hpos:0<l.length:=List.length_pos_iff.2 h0
 rw[if_neg (by omega)] at hR
 refine z00 Tryz.func61 rfl rfl rfl rfl rfl (fun E hn hb=>?_)
 repeat refine nx ?_
 refine z0N 6 900 3 (.recs 3 []) rfl rfl (.inr (.inr ⟨_,rfl⟩)) ?_
 refine z09 (St.le_of (l:= [(0,B8 l),(1,lv (.int .i64 ((0:Nat):Int))),(6,.c (.own 900 3 0 (gnR []).length))]) (h:= [(900,.row (.recs 3 (gnR [])))]) (by refine⟨?_,?_⟩<;>(repeat' (first | exact trivial | exact rfl | refine⟨?_,?_⟩))<;>first | exact rfl |(simp; done) | skip)) ?_
 refine z0h (ι:= {s:Nat×Nat×List GnT//s.2.1≤l.length∧l.length -s.2.1<s.1∧s.2.2.length≤10000∧z2O l s.1 s.2.1 s.2.2=R}) (fun s=>St.of [(0,B8 l),(1,lv (.int .i64 (s.1.2.1:Int))),(6,.c (.own 900 3 0 (gnR s.1.2.2).length))] [(900,.row (.recs 3 (gnR s.1.2.2)))]) (fun s=>s.1.1) (fun s=>?_) ⟨(l.length+1,0,[]),Nat.zero_le _,by dsimp only; omega,by simp,hR⟩
 obtain⟨⟨f,pp,acc⟩,hpp,hf,h16,hx⟩:=s
 dsimp only at hpp hf h16 hx ⊢
 obtain⟨f,rfl⟩:∃ m,f=m+1:=⟨f -1,by omega⟩
 have hml:(gnR acc).length=acc.length:=List.length_map ..
 rw[z2O] at hx
 by_cases hlt:pp<l.length
 ·rw[if_pos hlt] at hx
  by_cases h6:acc.length=10000
  ·rw[if_pos h6] at hx
   subst hx
   repeat refine nx ?_
   exact rtU []
  ·rw[if_neg h6] at hx
   have hrd:=zhE l pp hpp (by omega) hw
   have hle:=z5B l pp hpp
   have hps:= @zdp l pp (z1u l pp).2.1 (z1u l pp).1 hw hpp
   by_cases he1:(z1u l pp).2.2=0
   ·rw[zlg he1] at hrd
    generalize z1u l pp=S at*
    obtain⟨g,q1,e1⟩:=S
    dsimp only at hrd hx hle hps he1
    subst he1
    rw[if_pos rfl] at hx
    have hps:=hps rfl
    obtain⟨k,b,n⟩:=g
    repeat refine nx ?_
    refine z07 ⟨(f,q1,acc++ [(k,b,n)]),hle.2,by dsimp only; omega,by simp; omega,hx⟩ (by dsimp only; omega) (St.le_of ⟨⟨rfl,rfl,?_⟩,?_⟩)
    ·dsimp only; rw[z3S]; rfl
    ·dsimp only; rw[z3S]; rfl
   ·rw[zjS he1] at hrd
    generalize z1u l pp=S at*
    obtain⟨g,q1,e1⟩:=S
    dsimp only at hrd hx he1
    rw[if_neg he1] at hx
    subst hx
    repeat refine nx ?_
    exact rtU []
 ·rw[if_neg hlt] at hx
  subst hx
  repeat refine nx ?_
  refine z2d 4 ?_
  exact rt1 []
theorem zxq:∀ k:Fin 8,∀ x:Fin 256,(Go.IntKind.u8.wrap (BitVec.ofInt Go.IntKind.u8.bits (((x.val:Nat):Int)/2^min k.val Go.IntKind.u8.bits)&&& BitVec.ofInt Go.IntKind.u8.bits 1).toNat==1)=decide (((x.val:Nat):Int)/2^k.val%2=1):=by decide+kernel
theorem z8K (u:Int) (l:List Int) (hl:l.length≤16000000) (hw:WfB l) (hr:z0P u l=true) (hu:0≤u∧u≤7):Ct Tryz.prog 162 [z3t u l] [] (lv (.int .i64 (8*(l.length:Int) -u))) [] []:=by
 have h:=z4u u l hl hw
 rw[hr] at h
 refine z00 Tryz.func162 rfl rfl rfl rfl rfl (fun E hn hb=>?_)
 repeat refine nx ?_
 exact rt1 []
theorem zaR (u:Int) (l:List Int) (i:Nat) (hl:l.length≤16000000) (hw:WfB l) (hi:i/8<l.length):Ct Tryz.prog 163 [z3t u l,lv (.int .i64 (i:Int))] [] (lv (.bool (z2E l i))) [] []:=by
 have hx:=za4 hw (i/8)
 refine z00 Tryz.func163 rfl rfl rfl rfl rfl (fun E hn hb=>?_)
 repeat refine nx ?_
 refine rt2 [] (congrArg (fun x=>lv (.bool x)) ?_) trivial
 obtain⟨y,hy⟩:∃ y:Nat,l.getD (i/8) 0=y:=⟨(l.getD (i/8) 0).toNat,by omega⟩
 unfold z2E
 rw[show((i:Int)/8).toNat=i/8 by omega,show(7 -(i:Int)%8).toNat=7 -i%8 by omega,hy]
 exact zxq ⟨7 -i%8,by omega⟩ ⟨y,by omega⟩
end Go.Proofs.YtaagjnlkinojcaaGreat

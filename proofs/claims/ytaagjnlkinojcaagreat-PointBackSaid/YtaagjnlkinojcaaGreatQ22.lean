/-
  Chapter 16: a place, a part of a reader's. The conditions: rows that a machine can hold.
-/
import Derived.Test.YtaagjnlkinojcaaGreatQ20
import Derived.Test.YtaagjnlkinojcaaGreatP0
namespace Go.Proofs.YtaagjnlkinojcaaGreat
set_option linter.unusedSimpArgs false
set_option linter.unusedVariables false
open Go.Sx
set_option maxRecDepth 10000
theorem zfz {x:List Int} (hw:WfB x) (h:(z4w x).2.2=true):z14 (z4w x).1 (z4w x).2.1=true∧WfB (z4w x).2.1∧(z4w x).2.1.length≤x.length:=by
 unfold z4w at h ⊢
 cases x with
 | nil=>simp at h
 | cons u m=>
   dsimp only at h ⊢
   by_cases hr:z14 u m=true
   ·rw[if_pos hr]
    exact⟨hr,fun z hz=>hw z (List.mem_cons_of_mem _ hz),by simp⟩
   ·rw[if_neg hr] at h
    cases h
theorem zcw (u:Int) (n:List Int):(z7n u n).1.length≤32:=by
 unfold z7n
 dsimp only
 split
 ·simp
 ·rename_i h
  have:=List.length_filter_le (z33 n) (List.range (8*n.length -u.toNat))
  simp only[List.length_range] at this
  rw[List.length_map]
  have:=fun h2=>h (.inl h2)
  omega
theorem zaZ (x:List Int) (hl:x.length≤11880000) (hw:WfB x):Ct Tryz.prog 54 [.c (.ptr 0 0)] [z04 x 0] (.tup [I64 (z1p x).1,lv (.int .i64 (z1p x).2.2)]) [z04 x (z1p x).2.1] []:=by
 have hre:=z6B x 0 (Nat.zero_le _) (by omega)
 rw[List.drop_zero] at hre
 have hpa:=zgm x (by omega) hw
 have hpr:= @zfz x hw
 unfold z1p
 generalize z4w x=S at*
 obtain⟨u,n,ok⟩:=S
 dsimp only at*
 cases ok with
 | false=>
   rw[if_neg (by simp)]
   refine z00 Tryz.func54 rfl rfl rfl rfl rfl (fun E hn hb=>?_)
   repeat refine nx ?_
   exact rtU []
 | true=>
   obtain⟨h1,h2,h3⟩:=hpr rfl
   rw[if_pos rfl]
   have hf:=zjI u n (by omega) h2 h1
   have hfl:=zcw u n
   have hrea:=zi4 (z7n u n).1 (by omega)
   generalize z7n u n=F at*
   obtain⟨f,e⟩:=F
   dsimp only at*
   by_cases he:e=0
   ·subst he
    by_cases hr:(decide (0<f.length)&&z0T f)=true
    ·rw[hr] at hrea
     rw[Bool.and_eq_true,decide_eq_true_eq] at hr
     rw[if_pos ⟨rfl,List.length_pos_iff.1 hr.1,hr.2⟩]
     refine z00 Tryz.func54 rfl rfl rfl rfl rfl (fun E hn hb=>?_)
     repeat refine nx ?_
     exact rt1 []
    ·rw[Bool.eq_false_iff.2 hr] at hrea
     rw[if_neg (fun h=>hr (by rw[Bool.and_eq_true,decide_eq_true_eq]; exact⟨List.length_pos_iff.2 h.2.1,h.2.2⟩))]
     refine z00 Tryz.func54 rfl rfl rfl rfl rfl (fun E hn hb=>?_)
     repeat refine nx ?_
     exact rtU []
   ·rw[if_neg fun h=>he h.1]
    generalize (decide (0<f.length)&&z0T f)=B at*
    refine z00 Tryz.func54 rfl rfl rfl rfl rfl (fun E hn hb=>?_)
    repeat refine nx ?_
    exact rtU []
abbrev whC (w:WhT):Leaf:= .obj [.recs 3 (gnR w.1),z1s w.2]
abbrev wpL:Option WhT→Leaf
 | none=> .v (.pointer none)
 | some w=>whC w
def z2t (x:List Int):Option WhT×Nat×Int:=
 let r:=z0d x 0
 if r.2.2=0 then
  if isH x 0 (2,0,true)=true then(let s:=z0i [] x 0 (2,0,true) z1D; (some (s.1,[]),s.2.1,s.2.2))
  else if isH x 0 (2,1,true)=true then(let s:=z0i [] x 0 (2,1,true) z3s; (some ([],s.1),s.2.1,s.2.2))
  else(some ([],[]),0,4)
 else(none,r.2.1,r.2.2)
theorem z98 {α:Type} (z:α) (l:List Int) (p:Nat) (t:z0h) (rd:List Int→α×Nat×Int) (hp:p≤l.length):p≤(z0i z l p t rd).2.1∧(z0i z l p t rd).2.1≤l.length:=by
 have h:=z24 l p t hp
 unfold z0i
 dsimp only
 split
 ·split
  ·split
   ·split
    ·exact h
    ·exact h
   ·exact h
  ·exact⟨Nat.le_refl _,hp⟩
 ·exact⟨Nat.le_refl _,hp⟩
theorem ze6 (x:List Int):(z2t x).2.1≤x.length:=by
 unfold z2t
 dsimp only
 split
 ·split
  ·exact(z98 _ _ _ _ _ (Nat.zero_le _)).2
  ·split
   ·exact(z98 _ _ _ _ _ (Nat.zero_le _)).2
   ·exact Nat.zero_le _
 ·exact(z1k x 0 (Nat.zero_le _)).2
theorem zcx (l:List Int):(z1D l).2.1≤l.length:=(z52 _ _ _ _ ⟨Nat.zero_le _,zcY l⟩).2
set_option maxHeartbeats 8000000 in
theorem zcy (x:List Int) (hl:x.length≤11760000) (hw:WfB x):Ct Tryz.prog 52 [.c (.ptr 0 0)] [z04 x 0] (.tup [.c (.lf (wpL (z2t x).1)),lv (.int .i64 (z2t x).2.2)]) [z04 x (z2t x).2.1] []:=by
 have hrd:=z5g x 0 (Nat.zero_le _) (by omega) hw
 have hle:=z1k x 0 (Nat.zero_le _)
 have ht0:=z1j 0 true
 have ht1:=z1j 1 true
 have hi0:=z2W x 0 (2,0,true) (Nat.zero_le _) (by omega) hw
 have hi1:=z2W x 0 (2,1,true) (Nat.zero_le _) (by omega) hw
 change Ct _ _ _ _ (lv (.bool (isH x 0 (2,0,true)))) _ _ at hi0
 change Ct _ _ _ _ (lv (.bool (isH x 0 (2,1,true)))) _ _ at hi1
 have hp0:=zcK x 0 0 true 56 z1D (Nat.zero_le _) (by omega) hw zcx (fun y hy hwy=>z8Z y (by omega) hwy)
 have hp1:=ziZ x 0 1 true 114 z3s (Nat.zero_le _) (by omega) hw (fun y=>Nat.le_refl _) (fun y hy hwy=>ziY y (by omega) hwy)
 unfold z2t
 generalize z0d x 0=R at*
 obtain⟨⟨⟨t1,t2,t3⟩,n⟩,q,e⟩:=R
 dsimp only at*
 by_cases he:e=0
 ·subst he
  have hbk:=z1L x q 0 (Nat.zero_le _) (by omega)
  rw[if_pos rfl]
  by_cases h0:isH x 0 (2,0,true)=true
  ·rw[if_pos h0]
   rw[h0] at hi0
   generalize z0i [] x 0 (2,0,true) z1D=S at*
   obtain⟨s,q2,f⟩:=S
   dsimp only at*
   refine z00 Tryz.func52 rfl rfl rfl rfl rfl (fun E hn hb=>?_)
   repeat refine nx ?_
   refine z41 (fun a w h=>SR.cellsW 84 (cs:= [.lf (.recs 3 (gnR s)),.lf (.v (.slice none 0 0))]) [.lf (.recs 3 (gnR s)),.lf (.recs 2 [])] rfl ⟨.inr (.inl rfl),.inr (.inr ⟨rfl,.inr ⟨_,rfl⟩⟩),trivial⟩ h) ?_
   refine z41 (fun a w h=>SR.frp 2 (ls:= [.recs 3 (gnR s),.recs 2 []]) rfl rfl hb rfl rfl h) ?_
   exact rt1 []
  ·rw[if_neg h0]
   rw[Bool.eq_false_iff.2 h0] at hi0
   by_cases h1:isH x 0 (2,1,true)=true
   ·rw[if_pos h1]
    rw[h1] at hi1
    generalize z0i [] x 0 (2,1,true) z3s=S at*
    obtain⟨s,q2,f⟩:=S
    dsimp only at*
    refine z00 Tryz.func52 rfl rfl rfl rfl rfl (fun E hn hb=>?_)
    repeat refine nx ?_
    refine z41 (fun a w h=>SR.cellsW 84 (cs:= [.lf (.v (.slice none 0 0)),.lf (z1s s)]) [.lf (.recs 3 []),.lf (z1s s)] rfl ⟨.inr (.inr ⟨rfl,.inr ⟨_,rfl⟩⟩),.inr (.inl rfl),trivial⟩ h) ?_
    refine z41 (fun a w h=>SR.frp 2 (ls:= [.recs 3 [],z1s s]) rfl rfl hb rfl rfl h) ?_
    exact rt1 []
   ·rw[if_neg h1]
    rw[Bool.eq_false_iff.2 h1] at hi1
    refine z00 Tryz.func52 rfl rfl rfl rfl rfl (fun E hn hb=>?_)
    repeat refine nx ?_
    refine z41 (fun a w h=>SR.cellsW 84 (cs:= [.lf (.v (.slice none 0 0)),.lf (.v (.slice none 0 0))]) [.lf (.recs 3 []),.lf (.recs 2 [])] rfl ⟨.inr (.inr ⟨rfl,.inr ⟨_,rfl⟩⟩),.inr (.inr ⟨rfl,.inr ⟨_,rfl⟩⟩),trivial⟩ h) ?_
    refine z41 (fun a w h=>SR.frp 2 (ls:= [.recs 3 [],.recs 2 []]) rfl rfl hb rfl rfl h) ?_
    exact rt1 []
 ·rw[if_neg he]
  refine z00 Tryz.func52 rfl rfl rfl rfl rfl (fun E hn hb=>?_)
  repeat refine nx ?_
  exact rt1 []
end Go.Proofs.YtaagjnlkinojcaaGreat
namespace Go.Proofs.YtaagjnlkinojcaaGreat
set_option linter.unusedSimpArgs false
set_option linter.unusedVariables false
open Go Go.Sx
set_option maxRecDepth 10000
def z5s (m:Nat):List Int→Nat
 | []=>m
 | x::l=>z5s (if 0≤x∧x≤8 then m||| 2^x.toNat else m) l
theorem ze7:∀(l:List Int) (m:Nat),m<512→z5s m l<512
 | [],m,h=>h
 | x::l,m,h=>by
   rw[z5s]
   refine ze7 l _ ?_
   split
   ·rename_i hx
    have:2^x.toNat<2^9:=Nat.pow_lt_pow_right (by decide) (by omega)
    exact Nat.or_lt_two_pow (n:=9) h this
   ·exact h
abbrev IQ (l:List Int):Av:= .c (.lf (.ints .i64 l))
theorem orM:∀ m:Fin 512,∀ r:Fin 9,IntKind.i64.wrap (BitVec.ofInt IntKind.i64.bits ((m.val:Nat):Int)||| BitVec.ofInt IntKind.i64.bits (1*2^min (((r.val:Nat):Int).toNat) IntKind.i64.bits)).toNat=((m.val||| 2^r.val:Nat):Int):=by decide+kernel
theorem shM:∀ r:Fin 9,IntKind.i64.wrap (1*2^min (((r.val:Nat):Int).toNat) IntKind.i64.bits)=1*2^min (((r.val:Nat):Int).toNat) IntKind.i64.bits∧1*2^min (((r.val:Nat):Int).toNat) IntKind.i64.bits=((2^r.val:Nat):Int)∧2^r.val≤256:=by decide+kernel
theorem ziL (l:List Int) (hl:l.length≤9223372036854775807):Ct Tryz.prog 9 [IQ l] [] (IQ (l.take 20)) [] []:=by
 have e1:l.take (min (l.length:Int) 20).toNat=l.take 20:=by
  rcases Nat.le_total l.length 20 with h | h
  ·rw[show(min (l.length:Int) 20).toNat=l.length by omega,List.take_length,List.take_of_length_le h]
  ·rw[show(min (l.length:Int) 20).toNat=20 by omega]
 rw[←e1]
 refine z00 Tryz.func9 rfl rfl rfl rfl rfl (fun E hn hb=>?_)
 repeat refine nx ?_
 exact rt1 []
theorem zb0:∀(l:List Int) (m:Nat) (i:Nat),i<l.length→z5s m (l.take (i+1))=(if 0≤l.getD i 0∧l.getD i 0≤8 then z5s m (l.take i)||| 2^(l.getD i 0).toNat else z5s m (l.take i))
 | [],m,i,h=>by simp at h
 | x::l,m,0,h=>by simp[z5s]
 | x::l,m,i+1,h=>by
   have:=zb0 l (if 0≤x∧x≤8 then m||| 2^x.toNat else m) i (by simpa using h)
   simpa[z5s] using this
set_option maxHeartbeats 4000000 in
theorem zkO (l:List Int) (hl:l.length≤16000000):Ct Tryz.prog 12 [IQ l] [] (lv (.int .i64 ((z5s 0 l:Nat):Int))) [] []:=by
 refine z00 Tryz.func12 rfl rfl rfl rfl rfl (fun E hn hb=>?_)
 repeat refine nx ?_
 refine z09 (St.le_of (l:= [(3,lv (.int .i64 0)),(6,IQ l),(7,lv (.int .i64 (l.length:Int))),(8,lv (.int .i64 ((0:Nat):Int)))]) (h:= []) (by refine⟨?_,?_⟩<;>(repeat' (first | exact trivial | exact rfl | refine⟨?_,?_⟩))<;>first | exact rfl |(simp; done) | skip)) ?_
 refine z0k (ι:= {i:Nat//i≤l.length}) (fun i=>St.of [(3,lv (.int .i64 ((z5s 0 (l.take i.1):Nat):Int))),(6,IQ l),(7,lv (.int .i64 (l.length:Int))),(8,lv (.int .i64 (i.1:Int)))] []) (fun i=>l.length -i.1) (fun i=>?_) ⟨0,by omega⟩
 obtain⟨i,hi⟩:=i
 dsimp only
 by_cases hi2:i<l.length
 ·have hnx:=zb0 l 0 i hi2
  have hlt:=ze7 (l.take i) 0 (by decide)
  have hq:l.getD (i:Int).toNat 0=l.getD i 0:=rfl
  generalize z5s 0 (l.take i)=m at*
  generalize l.getD i 0=x at*
  by_cases hx:0≤x∧x≤8
  ·rw[if_pos hx] at hnx
   obtain⟨r,rfl⟩:∃ r:Nat,x=r:=⟨x.toNat,by omega⟩
   obtain⟨s1,s2,s3⟩:=shM ⟨r,by omega⟩
   have ho:=orM ⟨m,hlt⟩ ⟨r,by omega⟩
   dsimp only at s1 s2 s3 ho
   rw[Int.toNat_natCast] at hnx
   repeat (first | refine nx ?_ | rw[hq])
   rw[ho,←hnx]
   refine z08 ⟨i+1,by omega⟩ (by dsimp only; omega) (St.le_of ⟨⟨rfl,rfl,rfl,rfl⟩,trivial⟩)
  ·rw[if_neg hx] at hnx
   rcases Int.lt_or_le x 0 with h | h
   ·repeat (first | refine nx ?_ | rw[hq])
    rw[←hnx]
    refine z08 ⟨i+1,by omega⟩ (by dsimp only; omega) (St.le_of ⟨⟨rfl,rfl,rfl,rfl⟩,trivial⟩)
   ·have h2:8<x:=by omega
    repeat (first | refine nx ?_ | rw[hq])
    rw[←hnx]
    refine z08 ⟨i+1,by omega⟩ (by dsimp only; omega) (St.le_of ⟨⟨rfl,rfl,rfl,rfl⟩,trivial⟩)
 ·obtain rfl:i=l.length:=by omega
  rw[List.take_length]
  repeat refine nx ?_
  exact rt1 []
end Go.Proofs.YtaagjnlkinojcaaGreat
namespace Go.Proofs.YtaagjnlkinojcaaGreat
set_option linter.unusedSimpArgs false
set_option linter.unusedVariables false
open Go.Sx
set_option maxRecDepth 10000
theorem zfA {l:List Int} (h:(l.all fun x=>decide (0≤x)&&decide (x<256))=true):WfB l:=fun x hx=>by
 have:=List.all_eq_true.1 h x hx
 simpa using this
abbrev poA:Av:= .agg [.lf (.v (.pointer none)),.lf (.v (.slice none 0 0)),.lf (.v (.slice none 0 0))]
abbrev scA (u:Bool):Av:= .agg [.lf (.v (.pointer none)),.lf (.v (.bool u)),.lf (.v (.bool false)),.lf (.v (.bool false)),.lf (.v (.bool false)),.lf (.v (.slice none 0 0))]
theorem zb1:Ct Tryz.prog 86 [zjJ,zds] [] (lv (.bool true)) [] []:=by
 refine z00 Tryz.func86 rfl rfl rfl rfl rfl (fun E hn hb=>?_)
 repeat (first | refine nx ?_ | refine wgF (lv (.bool false)) hn ?_)
 exact rt1 []
theorem zgQ:Ct Tryz.prog 41 [poA] [] (lv (.bool false)) [] []:=by
 have h1:=zb1
 refine z00 Tryz.func41 rfl rfl rfl rfl rfl (fun E hn hb=>?_)
 repeat (first | refine nx ?_ | refine wgF (lv (.bool false)) hn ?_)
 exact rt1 []
abbrev bsR (l:List Bool):Av:= .c (.lf (.recs 1 (l.map fun b=> [Leaf.v (.bool b)])))
def z4C:List Bool→Nat
 | []=>0
 | b::l=>(cond b 1 0)+z4C l
theorem zcz:∀(l:List Bool) (i:Nat),i<l.length→z4C (l.take (i+1))=z4C (l.take i)+cond (l.getD i false) 1 0
 | [],i,h=>by simp at h
 | b::l,0,h=>by simp[z4C]
 | b::l,i+1,h=>by
   have:=zcz l i (by simpa using h)
   simp only[List.take_succ_cons,z4C,List.getD_cons_succ]
   omega
theorem zgR:∀ l:List Bool,z4C l≤l.length
 | []=>by simp[z4C]
 | b::l=>by
   have:=zgR l
   cases b<;>simp[z4C]<;>omega
theorem ziM (l:List Bool) (hl:l.length≤1000):Ct Tryz.prog 85 [bsR l] [] (lv (.int .i64 (z4C l:Int))) [] []:=by
 refine z00 Tryz.func85 rfl rfl rfl rfl rfl (fun E hn hb=>?_)
 repeat refine nx ?_
 rw[List.length_map]
 refine z09 (St.le_of (l:= [(3,lv (.int .i64 0)),(6,bsR l),(7,lv (.int .i64 (l.length:Int))),(8,lv (.int .i64 ((0:Nat):Int)))]) (h:= []) (by refine⟨?_,?_⟩<;>(repeat' (first | exact trivial | exact rfl | refine⟨?_,?_⟩))<;>first | exact rfl |(simp; done) | skip)) ?_
 refine z0k (ι:= {i:Nat//i≤l.length}) (fun i=>St.of [(3,lv (.int .i64 ((z4C (l.take i.1):Nat):Int))),(6,bsR l),(7,lv (.int .i64 (l.length:Int))),(8,lv (.int .i64 (i.1:Int)))] []) (fun i=>l.length -i.1) (fun i=>?_) ⟨0,by omega⟩
 obtain⟨i,hi⟩:=i
 dsimp only
 by_cases hi2:i<l.length
 ·have hnx:=zcz l i hi2
  have hle:=zgR (l.take i)
  have hlt:(l.take i).length≤1000:=by simp; omega
  have hq:l.getD (i:Int).toNat default=l.getD i false:=rfl
  generalize z4C (l.take i)=n at*
  generalize l.getD i false=b at*
  cases b with
  | true=>
    repeat (first | refine nx ?_ | rw[hq])
    refine z08 ⟨i+1,by omega⟩ (by dsimp only; omega) (St.le_of ⟨⟨?_,rfl,rfl,rfl⟩,trivial⟩)
    dsimp only; rw[hnx]; rfl
  | false=>
    repeat (first | refine nx ?_ | rw[hq])
    refine z08 ⟨i+1,by omega⟩ (by dsimp only; omega) (St.le_of ⟨⟨?_,rfl,rfl,rfl⟩,trivial⟩)
    dsimp only; rw[hnx]; rfl
 ·obtain rfl:i=l.length:=by omega
  rw[List.take_length]
  repeat refine nx ?_
  exact rt1 []
theorem zb2 (u:Bool):Ct Tryz.prog 32 [scA u] [] (lv (.bool u)) [] []:=by
 have h1:=zb1
 have h2:=ziM [u,false,false] (by simp)
 have h2:Ct Tryz.prog 85 [.c (.lf (.recs 1 [[Leaf.v (.bool u)],[Leaf.v (.bool false)],[Leaf.v (.bool false)]]))] [] (lv (.int .i64 ((z4C [u,false,false]:Nat):Int))) [] []:=h2
 cases u with
 | true=>
   rw[show z4C [true,false,false]=1 from rfl] at h2
   refine z00 Tryz.func32 rfl rfl rfl rfl rfl (fun E hn hb=>?_)
   repeat (first | refine nx ?_ | refine wgF (lv (.bool false)) hn ?_)
   refine rt2 [] (congrArg (fun x=>lv (.bool x)) ?_) trivial; (simp[z2u,Cell.kill,Cell.kill1])
 | false=>
   rw[show z4C [false,false,false]=0 from rfl] at h2
   refine z00 Tryz.func32 rfl rfl rfl rfl rfl (fun E hn hb=>?_)
   repeat (first | refine nx ?_ | refine wgF (lv (.bool false)) hn ?_)
   refine rt2 [] (congrArg (fun x=>lv (.bool x)) ?_) trivial; (simp[z2u,Cell.kill,Cell.kill1])
theorem ziN:Ct Tryz.prog 50 [.c (.ptr 0 0)] [z2d 0,z04 [] 0] poA [z2d 0,z04 [] 0] []:=by
 have h1:=z9q [] 0 0 true 52 (by decide) (by decide) (fun x hx=>by cases hx) (by decide+kernel)
 have h2:=z9r [] 0 1 false 54 (by decide) (by decide) (fun x hx=>by cases hx) (by decide+kernel)
 have h3:=zjO [] 0 2 true 56 (by decide) (by decide) (fun x hx=>by cases hx) (by decide+kernel)
 refine z00 Tryz.func50 rfl rfl rfl rfl rfl (fun E hn hb=>?_)
 repeat refine nx ?_
 exact rt1 []
theorem zkP:Ct Tryz.prog 49 [.c (.ptr 0 0),.c (.fn (.func 50) [] []),.c (.fn (.func 41) [] [])] [z04 [48,0] 0] (.tup [poA,lv (.int .i64 6)]) [z04 [48,0] 0] []:=by
 have ho:z0r [48,0] 0 (ofT 16)=([],2,0):=by decide+kernel
 have hw:WfB [48,0]:=zfA (by decide+kernel)
 have h0:=z1z [48,0] 0
 have h1:=z1d 16
 have h2:=z26 [48,0] 0 (ofT 16) (by decide) (by decide) hw (by rw[ho])
 rw[ho] at h2
 dsimp only at h2
 have h3:=ziN
 have h4:=z0S [] 0 (by decide) (by decide)
 have h5:=zgQ
 have h6:=z1L [48,0] 2 0 (by decide) (by decide)
 refine z00 Tryz.func49 rfl rfl rfl rfl rfl (fun E hn hb=>?_)
 repeat refine nx ?_
 exact rt1 []
theorem zpC:Ct Tryz.prog 14 [.c (.ptr 0 0)] [z04 [48,0] 0] (.tup [poA,lv (.int .i64 6)]) [z04 [48,0] 0] []:=by
 have h1:=zkP
 refine z00 Tryz.func14 rfl rfl rfl rfl rfl (fun E hn hb=>?_)
 repeat refine nx ?_
 exact rt1 []
theorem ziO:Ct Tryz.prog 89 [.c (.ptr 0 0)] [z2d 0,z04 [] 0] (scA false) [z2d 0,z04 [] 0] []:=by
 have hw:WfB []:=fun x hx=>by cases hx
 have h1:=z9q [] 0 0 true 52 (by decide) (by decide) hw (by decide+kernel)
 have h2:=z4i [] 0 1 false 91 (by decide) (by decide) hw (by decide+kernel)
 have h3:=z4i [] 0 2 false 91 (by decide) (by decide) hw (by decide+kernel)
 have h4:=z9r [] 0 3 false 54 (by decide) (by decide) hw (by decide+kernel)
 have h5:=z4i [] 0 4 false 91 (by decide) (by decide) hw (by decide+kernel)
 have h6:=z4i [] 0 5 false 91 (by decide) (by decide) hw (by decide+kernel)
 refine z00 Tryz.func89 rfl rfl rfl rfl rfl (fun E hn hb=>?_)
 repeat refine nx ?_
 exact rt1 []
theorem zkQ:Ct Tryz.prog 88 [.c (.ptr 0 0),.c (.fn (.func 89) [] []),.c (.fn (.func 32) [] [])] [z04 [48,0] 0] (.tup [scA false,lv (.int .i64 6)]) [z04 [48,0] 0] []:=by
 have ho:z0r [48,0] 0 (ofT 16)=([],2,0):=by decide+kernel
 have hw:WfB [48,0]:=zfA (by decide+kernel)
 have h0:=z1z [48,0] 0
 have h1:=z1d 16
 have h2:=z26 [48,0] 0 (ofT 16) (by decide) (by decide) hw (by rw[ho])
 rw[ho] at h2
 dsimp only at h2
 have h3:=ziO
 have h4:=z0S [] 0 (by decide) (by decide)
 have h5:=zb2 false
 have h6:=z1L [48,0] 2 0 (by decide) (by decide)
 refine z00 Tryz.func88 rfl rfl rfl rfl rfl (fun E hn hb=>?_)
 repeat refine nx ?_
 exact rt1 []
theorem zpD:Ct Tryz.prog 34 [.c (.ptr 0 0)] [z04 [48,0] 0] (.tup [scA false,lv (.int .i64 6)]) [z04 [48,0] 0] []:=by
 have h1:=zkQ
 refine z00 Tryz.func34 rfl rfl rfl rfl rfl (fun E hn hb=>?_)
 repeat refine nx ?_
 exact rt1 []
theorem zgS:Ct Tryz.prog 89 [.c (.ptr 0 0)] [z2d 0,z04 [129,1,255] 0] (scA true) [z2d 0,z04 [129,1,255] 3] []:=by
 have hw:WfB [129,1,255]:=zfA (by decide+kernel)
 have h1:=z9q [129,1,255] 0 0 true 52 (by decide) (by decide) hw (by decide+kernel)
 have h2:=zhP [129,1,255] 0 3 1 false (by decide) (by decide) hw (by decide+kernel) (by decide+kernel)
 have h3:=z4i [129,1,255] 3 2 false 91 (by decide) (by decide) hw (by decide+kernel)
 have h4:=z9r [129,1,255] 3 3 false 54 (by decide) (by decide) hw (by decide+kernel)
 have h5:=z4i [129,1,255] 3 4 false 91 (by decide) (by decide) hw (by decide+kernel)
 have h6:=z4i [129,1,255] 3 5 false 91 (by decide) (by decide) hw (by decide+kernel)
 refine z00 Tryz.func89 rfl rfl rfl rfl rfl (fun E hn hb=>?_)
 repeat refine nx ?_
 exact rt1 []
theorem ziP:Ct Tryz.prog 88 [.c (.ptr 0 0),.c (.fn (.func 89) [] []),.c (.fn (.func 32) [] [])] [z04 [48,3,129,1,255] 0] (.tup [scA true,lv (.int .i64 0)]) [z04 [48,3,129,1,255] 5] []:=by
 have ho:z0r [48,3,129,1,255] 0 (ofT 16)=([129,1,255],5,0):=by decide+kernel
 have hw:WfB [48,3,129,1,255]:=zfA (by decide+kernel)
 have h0:=z1z [48,3,129,1,255] 0
 have h1:=z1d 16
 have h2:=z26 [48,3,129,1,255] 0 (ofT 16) (by decide) (by decide) hw (by rw[ho])
 rw[ho] at h2
 dsimp only at h2
 have h3:=zgS
 have h4:=z0S [129,1,255] 3 (by decide) (by decide)
 have h5:=zb2 true
 refine z00 Tryz.func88 rfl rfl rfl rfl rfl (fun E hn hb=>?_)
 repeat refine nx ?_
 exact rt1 []
theorem zkR:Ct Tryz.prog 34 [.c (.ptr 0 0)] [z04 [48,3,129,1,255] 0] (.tup [scA true,lv (.int .i64 0)]) [z04 [48,3,129,1,255] 5] []:=by
 have h1:=ziP
 refine z00 Tryz.func34 rfl rfl rfl rfl rfl (fun E hn hb=>?_)
 repeat refine nx ?_
 exact rt1 []
theorem z9M:Ct Tryz.prog 11 [] [] (lv (.bool true)) [] []:=by
 have h1:=z2l [48,0] (by decide)
 have h2:=z2l [48,3,129,1,255] (by decide)
 have h3:=zpC
 have h5:=zkR
 have h4:=zpD
 have h6:=zkO [1,8] (by decide)
 rw[show z5s 0 [1,8]=258 from by decide] at h6
 refine z00 Tryz.func11 rfl rfl rfl rfl rfl (fun E hn hb=>?_)
 repeat refine nx ?_
 refine z0w [85] h5 rfl rfl (by rw[hn]; rfl) rfl rfl (by trivial) ⟨rfl,rfl,(by simp[z0b]),rfl⟩ ?_
 repeat (first | refine nx ?_ | refine z4L rfl rfl ?_)
 refine rt2 [] (congrArg (fun x=>lv (.bool x)) ?_) trivial; (simp[z2u,Cell.kill,Cell.kill1])
theorem lgE {P:Go.Program} {E:Env} {ops:Array Go.Oper} {Q:Go.Exit→Go.Act→Go.World→Prop} {rest:List Go.Oper} {o:Go.Oper} {σ:St} {t e:Go.TypeId} {sz by_ n s nt:Nat} {parts:Array (Nat×Go.Operand)} {ps:List Prop} {out:List Cell} {d:Leaf} {dd:Option Nat} {i:Nat} {g G:Bool} (hn:E.n=nt) (hk:WL P E ops Q rest (σ.put dd (.cnd G (.c (.lf d))))) (hop:o.op= .buildSlice t n parts:=by exact rfl) (hg:o.guard=some (i,g):=by exact rfl) (hG:z0V ops σ i g=some G:=by exact rfl) (hdf:z0j o.dst some=some dd:=by exact rfl) (hd:z0e nt dd=true:=by exact rfl)
  (hE:Elt P t e sz by_:=by exact z0n rfl rfl rfl) (hs:z2h sz some=some s:=by exact rfl) (hf:z1A (fun i=>some (i*s,s)) (List.replicate (n*s) .un) (parts.toList.map fun(i,x)=>(i,ox σ x))=some (ps,out):=by exact rfl) (hdd:z3n (z2H P e s n out) some=some d:=by exact rfl) (hnn:n*s≤16777216∧n≤16777216∧z0f d=n∧szD d=s:=by exact⟨by decide,by decide,rfl,rfl⟩)
  (hz:z01 P e:=by first |(simp; done) | fail) (hp:G=true→z03 ps:=by intro hG; first | trivial | exact hG |(simp; done)):WL P E ops Q (o::rest) σ:=by
 obtain rfl:=z1u hs
 simp only[z0t,Option.some.injEq] at hdf
 subst hdf
 exact z1b (z3X hg hG fun hh=>z8q hop hE hz hf (hp hh) (z2T hdd) hnn) (by rw[hn]; exact hd) hk
abbrev lfV (L:Leaf):Av:= .c (.lf L)
abbrev wpV (o:Option WhT):Av:= .c (.lf (wpL o))
set_option maxHeartbeats 4000000 in
theorem ziQ (l:List Int) (p:Nat) (n:Int) (b:Bool) (g:Nat) (rd:List Int→Option WhT×Nat×Int) (hp:p≤l.length) (hl:l.length≤11760000) (hw:WfB l) (hs:∀ x,(rd x).2.1≤x.length)
  (hrd:∀ x:List Int,x.length≤l.length→WfB x→Ct Tryz.prog g [.c (.ptr 0 0)] [z04 x 0] (.tup [wpV (rd x).1,lv (.int .i64 (rd x).2.2)]) [z04 x (rd x).2.1] []):
  Ct Tryz.prog 108 [.c (.ptr 0 0),lv (.int .i64 n),lv (.bool b),.c (.fn (.func g) [] [])] [z04 l p] (.tup [wpV (z0i none l p (2,n,b) rd).1,lv (.int .i64 (z0i none l p (2,n,b) rd).2.2)]) [z04 l (z0i none l p (2,n,b) rd).2.1] []:=by
 have ht:=z1j n b
 have hi:=z2W l p (2,n,b) hp (by omega) hw
 have hop:=z26 l p (2,n,b) hp (by omega) hw
 have hoe:=z2s l p (2,n,b) hp (by omega) hw
 have hmem:=z0H l p (2,n,b)
 change Ct _ _ _ _ (lv (.bool (isH l p (2,n,b)))) _ _ at hi
 unfold z0i
 by_cases h:isH l p (2,n,b)=true
 ·rw[h] at hi
  rw[if_pos h]
  generalize z0r l p (2,n,b)=X at*
  obtain⟨x,q,e⟩:=X
  dsimp only at*
  by_cases he:e=0
  ·subst he
   have hop:=hop rfl
   rw[if_pos rfl]
   have hr:=hrd x hmem.1 (fun z hz=>hw z (hmem.2 z hz))
   have hsx:=hs x
   generalize rd x=R at*
   obtain⟨r,s,f⟩:=R
   dsimp only at*
   rcases r with _ |⟨w1,w2⟩
   all_goals
    by_cases hf:f=0
    ·subst hf
     rw[if_pos rfl]
     have hlf:=z0S x s hsx (by omega)
     by_cases hlt:s<x.length
     ·rw[if_pos hlt]
      refine z00 Tryz.func108 rfl rfl rfl rfl rfl (fun E hn hb=>?_)
      repeat refine nx ?_
      exact rt1 []
     ·rw[if_neg hlt]
      refine z00 Tryz.func108 rfl rfl rfl rfl rfl (fun E hn hb=>?_)
      repeat refine nx ?_
      exact rt1 []
    ·rw[if_neg hf]
     refine z00 Tryz.func108 rfl rfl rfl rfl rfl (fun E hn hb=>?_)
     repeat refine nx ?_
     exact rt1 []
  ·have hoe:=hoe he
   rw[if_neg he]
   refine z00 Tryz.func108 rfl rfl rfl rfl rfl (fun E hn hb=>?_)
   repeat refine nx ?_
   exact rt1 []
 ·rw[Bool.eq_false_iff.2 h] at hi
  rw[if_neg h]
  refine z00 Tryz.func108 rfl rfl rfl rfl rfl (fun E hn hb=>?_)
  repeat refine nx ?_
  exact rt1 []
theorem zcA (l:List Int) (p:Nat) (n:Int) (b:Bool) (g:Nat) (e:Int) (rd:List Int→Option WhT×Nat×Int) (hp:p≤l.length) (hl:l.length≤11760000) (hw:WfB l) (hs:∀ x,(rd x).2.1≤x.length)
  (hrd:∀ x:List Int,x.length≤l.length→WfB x→Ct Tryz.prog g [.c (.ptr 0 0)] [z04 x 0] (.tup [wpV (rd x).1,lv (.int .i64 (rd x).2.2)]) [z04 x (rd x).2.1] []):
  Ct Tryz.prog 51 [.c (.ptr 0 0),lv (.int .i64 n),lv (.bool b),.c (.fn (.func g) [] [])] [z2d e,z04 l p] (wpV (z0O none e l p (2,n,b) rd).1) [z2d (z0O none e l p (2,n,b) rd).2.2,z04 l (z0O none e l p (2,n,b) rd).2.1] []:=by
 have h:=ziQ l p n b g rd hp hl hw hs hrd
 unfold z0O
 by_cases he:e=0
 ·subst he
  rw[if_pos rfl]
  generalize z0i none l p (2,n,b) rd=R at*
  obtain⟨r,q,f⟩:=R
  dsimp only at*
  rcases r with _ |⟨w1,w2⟩
  all_goals
   refine z00 Tryz.func51 rfl rfl rfl rfl rfl (fun E hn hb=>?_)
   repeat refine nx ?_
   exact rt1 []
 ·rw[if_neg he]
  refine z00 Tryz.func51 rfl rfl rfl rfl rfl (fun E hn hb=>?_)
  repeat refine nx ?_
  exact rt1 []
end Go.Proofs.YtaagjnlkinojcaaGreat

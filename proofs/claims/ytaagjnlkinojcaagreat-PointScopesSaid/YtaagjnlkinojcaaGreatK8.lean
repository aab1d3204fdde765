/-
  Chapter 16: the document writes names and places. The conditions: rows that a machine can hold.
-/
import Derived.Test.YtaagjnlkinojcaaGreatJ5
import Derived.Test.YtaagjnlkinojcaaGreatSxA
import Derived.Test.YtaagjnlkinojcaaGreatE7
import Derived.Test.YtaagjnlkinojcaaGreatJ2
import Derived.Test.YtaagjnlkinojcaaGreatQ13
import Derived.Test.YtaagjnlkinojcaaGreatQ21
namespace Go.Proofs.YtaagjnlkinojcaaGreat
set_option linter.unusedSimpArgs false
set_option linter.unusedVariables false
open Go Go.Sx
set_option maxRecDepth 10000
def z60 (s:ScT):List Int:=z1g s.1++(z0p 1 s.2.1.1++(z0p 2 s.2.1.2.1++(z1E 3 s.2.2++(z0p 4 s.2.1.2.2.1++z0p 5 s.2.1.2.2.2))))
def z3R (s:ScT):List Int:=z04 (ofT 16) (z60 s)
abbrev sc0:ScT:=(none,(false,false,false,false),[])
def z89 (x:List Int):ScT×Int:=
 let a:=z0l none x 0 (2,0,true) z3L
 if a.2.2=0 then
  let b:=z0l false x a.2.1 (2,1,false) z1f
  if b.2.2=0 then
   let c:=z0l false x b.2.1 (2,2,false) z1f
   if c.2.2=0 then
    let d:=z0l [] x c.2.1 (2,3,false) z2b
    if d.2.2=0 then
     let e:=z0l false x d.2.1 (2,4,false) z1f
     if e.2.2=0 then
      let f:=z0l false x e.2.1 (2,5,false) z1f
      if f.2.2=0 then(if f.2.1<x.length then(sc0,7) else if z3E (a.1,(b.1,c.1,e.1,f.1),d.1)=true then((a.1,(b.1,c.1,e.1,f.1),d.1),0) else(sc0,6)) else(sc0,f.2.2)
     else(sc0,e.2.2)
    else(sc0,d.2.2)
   else(sc0,c.2.2)
  else(sc0,b.2.2)
 else(sc0,a.2.2)
def z1P (l:List Int) (p:Nat):ScT×Nat×Int:=
 let r:=z0m l p (ofT 16)
 if r.2.2=0 then(if(z89 r.1).2=0 then((z89 r.1).1,r.2.1,0) else(sc0,p,(z89 r.1).2)) else(sc0,p,r.2.2)
structure ScH (s:ScT):Prop where
 w:∀ w,s.1=some w→WhH w
 c:(z60 s).length≤16777216
theorem z7s {s:ScT} (h:z3E s=true):z5q s.1=true∧z0Z s.2.2=true:=by
 unfold z3E at h
 simp only[Bool.and_eq_true] at h
 exact⟨h.1.1.1,h.1.1.2⟩
theorem zjn {s:ScT} (h:z3E s=true) (hb:ScH s):z89 (z60 s)=(s,0):=by
 obtain⟨h1,h2⟩:=z7s h
 obtain⟨o,⟨u,a,i,t⟩,r⟩:=s
 dsimp only at*
 have n5:NoT (z0p 5 t) (2,4,false):=by rw[←List.append_nil (z0p 5 t)]; exact z6G (by decide) (by decide) (z6F 5 t) zaN
 have n5':∀(k:Int) (m:Bool),k≠5→NoT (z0p 5 t) (2,k,m):=fun k m hk=>by rw[←List.append_nil (z0p 5 t)]; exact z6G (by decide) (Ne.symm hk) (z6F 5 t) zaN
 have n4:∀(k:Int) (m:Bool),k≠4→k≠5→NoT (z0p 4 i++z0p 5 t) (2,k,m):=fun k m h4 h5=>z6G (by decide) (Ne.symm h4) (z6F 4 i) (n5' k m h5)
 have n3:∀(k:Int) (m:Bool),k≠3→k≠4→k≠5→NoT (z1E 3 r++(z0p 4 i++z0p 5 t)) (2,k,m):=fun k m h3 h4 h5=>z6G (by decide) (Ne.symm h3) (zle 3 r) (n4 k m h4 h5)
 have n2:∀(k:Int) (m:Bool),k≠2→k≠3→k≠4→k≠5→NoT (z0p 2 a++(z1E 3 r++(z0p 4 i++z0p 5 t))) (2,k,m):=fun k m h2 h3 h4 h5=>z6G (by decide) (Ne.symm h2) (z6F 2 a) (n3 k m h3 h4 h5)
 have n1:NoT (z0p 1 u++(z0p 2 a++(z1E 3 r++(z0p 4 i++z0p 5 t)))) (2,0,true):=z6G (by decide) (by decide) (z6F 1 u) (n2 0 true (by decide) (by decide) (by decide) (by decide))
 have e1:=zjL [] (D:=z0p 1 u++(z0p 2 a++(z1E 3 r++(z0p 4 i++z0p 5 t)))) h1 hb.w n1
 have e2:=z7v (z1g o) 1 (by decide) (x:=u) (D:=z0p 2 a++(z1E 3 r++(z0p 4 i++z0p 5 t))) (n2 1 false (by decide) (by decide) (by decide) (by decide))
 have e3:=z7v (z1g o++z0p 1 u) 2 (by decide) (x:=a) (D:=z1E 3 r++(z0p 4 i++z0p 5 t)) (n3 2 false (by decide) (by decide) (by decide))
 have e4:=zjM (z1g o++(z0p 1 u++z0p 2 a)) 3 (by decide) (l:=r) (D:=z0p 4 i++z0p 5 t) h2 (n4 3 false (by decide) (by decide))
 have e5:=z7v (z1g o++(z0p 1 u++(z0p 2 a++z1E 3 r))) 4 (by decide) (x:=i) (D:=z0p 5 t) n5
 have e6:=z7v (z1g o++(z0p 1 u++(z0p 2 a++(z1E 3 r++z0p 4 i)))) 5 (by decide) (x:=t) (D:= []) zaN
 rw[List.nil_append,List.length_nil,Nat.zero_add] at e1
 rw[List.append_nil] at e6
 simp only[List.append_assoc,List.length_append] at e2 e3 e4 e5 e6
 unfold z89 z60
 dsimp only
 rw[e1]
 dsimp only
 rw[if_pos rfl,e2]
 dsimp only
 rw[if_pos rfl,e3]
 dsimp only
 rw[if_pos rfl]
 rw[show(z1g o).length+(z0p 1 u).length+(z0p 2 a).length=(z1g o).length+((z0p 1 u).length+(z0p 2 a).length) by omega,e4]
 dsimp only
 rw[if_pos rfl]
 rw[show(z1g o).length+((z0p 1 u).length+(z0p 2 a).length)+(z1E 3 r).length=(z1g o).length+((z0p 1 u).length+((z0p 2 a).length+(z1E 3 r).length)) by omega,e5]
 dsimp only
 rw[if_pos rfl]
 rw[show(z1g o).length+((z0p 1 u).length+((z0p 2 a).length+(z1E 3 r).length))+(z0p 4 i).length=(z1g o).length+((z0p 1 u).length+((z0p 2 a).length+((z1E 3 r).length+(z0p 4 i).length))) by omega,e6]
 dsimp only
 rw[if_pos rfl,if_neg (by simp only[List.length_append]; omega),if_pos h]
theorem zjo (A C:List Int) {s:ScT} (h:z3E s=true) (hb:ScH s):z1P (A++(z3R s++C)) A.length=(s,A.length+(z3R s).length,0):=by
 have h1:=z4Z A (z60 s) C (ofT 16) (by decide) hb.c
 unfold z1P z3R
 rw[h1]
 dsimp only
 rw[if_pos rfl,zjn h hb]
 rfl
end Go.Proofs.YtaagjnlkinojcaaGreat
namespace Go.Proofs.YtaagjnlkinojcaaGreat
set_option linter.unusedSimpArgs false
set_option linter.unusedVariables false
open Go.Sx
set_option maxRecDepth 10000
def prC (n m:List (List AtT)):Nat→List (List AtT)
 | 0=> []
 | 1=>n
 | _=>n++m
structure WhF (w:WhT):Prop where
 h:z1Z w.1=true→∀ g ∈ w.1,GnH g
 l:z1Z w.1=true→(w.1.flatMap z0r).length≤12000000∧WfB (w.1.flatMap z0r)
end Go.Proofs.YtaagjnlkinojcaaGreat
namespace Go.Proofs.YtaagjnlkinojcaaGreat
set_option linter.unusedSimpArgs false
set_option linter.unusedVariables false
open Go Go.Sx
set_option maxRecDepth 10000
theorem zbT {α:Type} (f:α→List Int) (l:List α) (h:∀ x ∈ l,WfB (f x)):WfB (l.flatMap f):=fun y hy=>by
 obtain⟨x,hx,hy⟩:=List.mem_flatMap.1 hy
 exact h x hx y hy
theorem zhp {a:AtT} (h:z1w a=true) (hw:WfB a.2):WfB (atW a):=by
 have h1:=h
 unfold z1w at h1
 rw[Bool.and_eq_true] at h1
 have e:(z1o a.1).1=z04 (ofT 6) (z0v (z0Y a.1)):=by unfold z1o; rw[if_pos h1.1]
 unfold atW
 rw[e]
 exact z1B _ _ (by decide) (z3J (z1B _ _ (by decide) (zgf _)) hw)
theorem zjp {r:List AtT} (h:z0D r=true) (hw:∀ a ∈ r,WfB a.2):WfB (z0i r):=by
 unfold z0D at h
 simp only[Bool.and_eq_true,decide_eq_true_iff,List.all_eq_true] at h
 exact z1B _ _ (by decide) (zbT _ _ fun a ha=>zhp (h.1.2 a ha) (hw a ha))
theorem zjq {n:List (List AtT)} (h:z15 n=true) (hw:∀ r ∈ n,∀ a ∈ r,WfB a.2):WfB (z1M n):=
 z1B _ _ (by decide) (zbT _ _ fun r hr=>zjp ((z7u h).2 r hr) (hw r hr))
theorem zl6 {g:GnT} (h:z0F g=true) (hw:WfB g.2.1) (hn:∀ r ∈ g.2.2,∀ a ∈ r,WfB a.2):WfB (z0r g):=by
 obtain⟨h1,h2,h3,h4⟩:=z4Q h
 refine z1B _ _ (zdW h1 h2) ?_
 by_cases hk:g.1=4
 ·rw[if_pos hk]
  have hno:z15 g.2.2=true:=by
   unfold z0F at h
   rw[if_pos hk,Bool.and_eq_true] at h
   exact h.2
  exact zjq hno hn
 ·rw[if_neg hk]
  exact hw
theorem zet {l:List Int} {n:Int} (h:WfB l):WfB (zaM n l):=fun x hx=>h x (List.mem_of_mem_take hx)
theorem z9o (l:List Int) (n:Nat):(zaM (n:Int) l).length≤n:=by
 unfold zaM
 rw[List.length_take]
 omega
theorem zrv {a:AtT} (h:AtI a):AtB (atT a)∧(atT a).2.length≤200:=by
 have h1:=z9o a.1 40
 have h2:=z9o a.2 200
 exact⟨⟨Nat.le_trans h1 (by decide),Nat.le_trans h2 (by decide),zet h.w⟩,h2⟩
theorem zfI {r:List AtT} (h:StI r):(stT r).length≤20∧∀ a ∈ stT r,AtB a∧a.2.length≤200:=by
 unfold stT
 refine⟨by rw[List.length_map,List.length_take]; omega,fun a ha=>?_⟩
 obtain⟨b,hb,rfl⟩:=List.mem_map.1 ha
 exact zrv (h.2 b (List.mem_of_mem_take hb))
theorem zrw {n:List (List AtT)} (h:NmI n):(nmT n).length≤70∧NmB (nmT n)∧∀ r ∈ nmT n,∀ a ∈ r,a.2.length≤200:=by
 have hl:(nmT n).length≤70:=by unfold nmT; rw[List.length_map,List.length_take]; omega
 have key:∀ r ∈ nmT n,r.length≤20∧∀ a ∈ r,AtB a∧a.2.length≤200:=fun r hr=>by
  unfold nmT at hr
  obtain⟨s,hs,rfl⟩:=List.mem_map.1 hr
  exact zfI (h.2 s (List.mem_of_mem_take hs))
 exact⟨hl,⟨Nat.le_trans hl (by decide),fun r hr=>⟨Nat.le_trans (key r hr).1 (by decide),fun a ha=>((key r hr).2 a ha).1⟩⟩,fun r hr a ha=>((key r hr).2 a ha).2⟩
theorem zpJ {g:GnT} (h:GnI g):GnB (z7t g)∧GnS (z7t g):=by
 have h1:=z9o g.2.1 300
 obtain⟨n1,n2,n3⟩:=zrw (zhy h.n)
 have h5:(nmT (zdj g.2.2)).length≤5:=by
  unfold nmT zdj
  rw[List.length_map,List.length_take,List.length_take]
  omega
 exact⟨⟨Nat.le_trans h1 (by decide),zet h.w,n2⟩,⟨h1,h5,n3⟩⟩
theorem zhq {l:List GnT} (h:zjB l):(z4K l).length≤20∧∀ g ∈ z4K l,GnB g∧GnS g:=by
 unfold z4K
 refine⟨by rw[List.length_map,List.length_take]; omega,fun g hg=>?_⟩
 obtain⟨b,hb,rfl⟩:=List.mem_map.1 hg
 exact zpJ (h.2 b (List.mem_of_mem_take hb))
theorem zrx {g:GnT} (h:z0F g=true) (hb:GnB g) (hs:GnS g):GnH g:=
 ⟨hb.w,hb.l,fun r hr a ha=>⟨((hb.n.2 r hr).2 a ha).w,Nat.le_trans (hs.a r hr a ha) (by decide)⟩,Nat.le_trans (zex h hs) (by decide)⟩
abbrev whU (w:WhT):WhT:=(z4K w.1,stT w.2)
theorem zk6 {w:WhT} (h:WhI w):WhB (whU w)∧WhF (whU w):=by
 obtain⟨g1,g2⟩:=zhq h.g
 obtain⟨s1,s2⟩:=zfI h.s
 refine⟨⟨Nat.le_trans g1 (by decide),fun g hg=>(g2 g hg).1,Nat.le_trans s1 (by decide),fun a ha=>(s2 a ha).1⟩,⟨fun ho g hg=>?_,fun ho=>?_⟩⟩
 ·exact zrx ((z3f ho).2.2 g hg) (g2 g hg).1 (g2 g hg).2
 ·have hk:=(z3f ho).2.2
  have h1:=zdm hk g1 fun g hg=>(g2 g hg).2
  exact⟨Nat.le_trans h1 (by decide),zbT _ _ fun g hg=>zl6 (hk g hg) (g2 g hg).1.w fun r hr a ha=>(((g2 g hg).1.n.2 r hr).2 a ha).w⟩
end Go.Proofs.YtaagjnlkinojcaaGreat
namespace Go.Proofs.YtaagjnlkinojcaaGreat
set_option linter.unusedSimpArgs false
set_option linter.unusedVariables false
open Go.Sx
set_option maxRecDepth 10000
theorem zfJ (u:Int) (l:List Int) (hu:0≤u∧u≤7) (hl:l.length≤12000000):Ct Tryz.prog 153 [z3t u l] [] (B8 (u::l)) [] []:=by
 have hw:=(zaD u).2 (by omega)
 refine z00 Tryz.func153 rfl rfl rfl rfl rfl (fun E hn hb=>?_)
 iterate 11 refine nx ?_
 try rw[hw]
 refine z1R rfl rfl rfl (by rw[hn]; rfl) (z0n Tryz.underlying28 rfl rfl) (z2S) (by exact vcs) ⟨by decide,rfl⟩ ?_
 repeat (refine nst ?_)
 refine z2G rfl rfl rfl rfl rfl rfl (by rw[hn]; rfl) (z0n Tryz.underlying28 rfl rfl) rfl rfl rfl rfl (by exact vcs) (by first | rfl |(simp; done) |(simp; omega)) ⟨by first |(simp; done) |(simp; omega) |(simp at*; omega),by decide⟩ ?_
 repeat refine nx ?_
 refine z2d 2 ?_
 exact rt1 []
theorem zl7:∀ k:Int,(0≤k∧k≤5)→z0p k true= [128+k,1,255]:=by
 intro k hk
 obtain rfl | rfl | rfl | rfl | rfl | rfl:k=0∨k=1∨k=2∨k=3∨k=4∨k=5:=by omega
 all_goals decide
theorem z5x (k:Int) (x:Bool) (hk:0≤k∧k≤5):Ct Tryz.prog 94 [lv (.int .i64 k),lv (.bool x)] [] (B8 (z0p k x)) [] []:=by
 have hw:=(zaD (128+k)).2 (by omega)
 cases x
 ·refine z00 Tryz.func94 rfl rfl rfl rfl rfl (fun E hn hb=>?_)
  repeat refine nx ?_
  exact rtU []
 ·rw[zl7 k hk]
  refine z00 Tryz.func94 rfl rfl rfl rfl rfl (fun E hn hb=>?_)
  repeat refine nx ?_
  exact rt1 []
theorem zfK (k:Int) (l:List Int) (hk:0≤k∧k≤5) (h:z0Z l=true):Ct Tryz.prog 95 [lv (.int .i64 k),I64 l] [] (B8 (z1E k l)) [] []:=by
 unfold z1E
 by_cases h0:l.length=0
 ·rw[if_pos h0]
  obtain rfl:=List.eq_nil_of_length_eq_zero h0
  refine z00 Tryz.func95 rfl rfl rfl rfl rfl (fun E hn hb=>?_)
  repeat refine nx ?_
  exact rtU []
 ·rw[if_neg h0]
  have hne:¬ l= []:=fun e=>h0 (by rw[e]; rfl)
  have h1:=zij l h
  have h2:=zgD h hne
  have h3:=(z9Q h hne).2
  have h4:=z3k k false
  have hpl:z3b (z1d [] l)≤7:=by unfold z3b; omega
  have h5:=zfJ ((z3b (z1d [] l):Nat):Int) (z6y (z1y l)) (by omega) (by rw[←h2] at h3; rw[List.length_cons] at h3; omega)
  rw[h2] at h5
  have hrt:z0q (2,k,false)=true:=by unfold z0q; dsimp only; rw[decide_eq_true_iff]; omega
  have h6:=z22 (2,k,false) (flC l) hrt (by omega)
  generalize z6y (z1y l)=Y at*
  generalize ((z3b (z1d [] l):Nat):Int)=u at*
  refine z00 Tryz.func95 rfl rfl rfl rfl rfl (fun E hn hb=>?_)
  repeat refine nx ?_
  exact rt1 []
set_option maxHeartbeats 4000000 in
theorem zbD (r:List AtT) (hb1:∀ a ∈ r,AtB a) (hr:∀ a ∈ r,z1w a=true) (hl:r.length≤16000000) (hw:(r.flatMap atW).length≤14400000):Ct Tryz.prog 151 [z39 r] [] (B8 (z0i r)) [] []:=by
 have hml:(r.map atL).length=r.length:=List.length_map ..
 have h1:=z2h 17
 have h2:=z22 (ofT 17) (r.flatMap atW) (by decide) (by omega)
 have hpre:∀ i,((r.take i).flatMap atW).length≤(r.flatMap atW).length:=fun i=>by
  conv=>rhs; rw[←List.take_append_drop i r,List.flatMap_append,List.length_append]
  exact Nat.le_add_right _ _
 refine z00 Tryz.func151 rfl rfl rfl rfl rfl (fun E hn hb=>?_)
 repeat refine nx ?_
 refine z0N 3 900 1 (.ints .u8 []) rfl rfl (.inr (.inl ⟨_,rfl⟩)) ?_
 refine z09 (St.le_of (l:= [(0,z39 r),(3,.c (.own 900 1 0 ((r.take 0).flatMap atW).length)),(4,lv (.int .i64 ((0:Nat):Int)))]) (h:= [(900,rB ((r.take 0).flatMap atW))]) (by refine⟨?_,?_⟩<;>(repeat' (first | exact trivial | exact rfl | refine⟨?_,?_⟩))<;>first | exact rfl |(simp; done) | skip)) ?_
 refine z0h (ι:= {i:Nat//i≤r.length}) (fun i=>St.of [(0,z39 r),(3,.c (.own 900 1 0 ((r.take i.1).flatMap atW).length)),(4,lv (.int .i64 (i.1:Int)))] [(900,rB ((r.take i.1).flatMap atW))]) (fun i=>r.length -i.1) (fun i=>?_) ⟨0,Nat.zero_le _⟩
 obtain⟨i,hi⟩:=i
 dsimp only
 by_cases hi2:i<r.length
 ·have hq:r.getD (i:Int).toNat default=r.getD i atD:=rfl
  have hm:=z1S (d:=atD) hi2
  have hwh:=zbz _ (hb1 _ hm) (hr _ hm)
  clear hm
  have hsn:(r.take (i+1)).flatMap atW=(r.take i).flatMap atW++atW (r.getD i atD):=by rw[z2j (d:=atD) hi2,List.flatMap_append,List.flatMap_singleton]
  have hp1:=hpre (i+1)
  rw[hsn,List.length_append] at hp1
  generalize r.getD i atD=a at*
  generalize atW a=X at*
  obtain⟨o,v⟩:=a
  repeat (first | refine nx ?_ | rw[hq])
  refine z07 ⟨i+1,by omega⟩ (by dsimp only; omega) (St.le_of ⟨⟨rfl,?_,rfl⟩,?_⟩)
  ·dsimp only; rw[hsn]; rfl
  ·dsimp only; rw[hsn]; rfl
 ·obtain rfl:i=r.length:=by omega
  rw[List.take_length]
  unfold z0i
  generalize r.flatMap atW=X at*
  repeat refine nx ?_
  refine zcA 25 ?_
  repeat refine nx ?_
  exact rt1 []
end Go.Proofs.YtaagjnlkinojcaaGreat
namespace Go.Proofs.YtaagjnlkinojcaaGreat
set_option linter.unusedSimpArgs false
set_option linter.unusedVariables false
open Go Go.Sx
set_option maxRecDepth 10000
set_option maxHeartbeats 4000000 in
theorem zhr (l:List (List AtT)) (hb1:NmB l) (hr:∀ r ∈ l,z0D r=true) (hw:(l.flatMap z0i).length≤14400000):Ct Tryz.prog 190 [nmV l] [] (B8 (z04 (ofT 16) (l.flatMap z0i))) [] []:=by
 have hml:(nmR l).length=l.length:=List.length_map ..
 have hll:=hb1.1
 have h1:=z2h 16
 have h2:=z22 (ofT 16) (l.flatMap z0i) (by decide) (by omega)
 have hpre:∀ i,((l.take i).flatMap z0i).length≤(l.flatMap z0i).length:=fun i=>by
  conv=>rhs; rw[←List.take_append_drop i l,List.flatMap_append,List.length_append]
  exact Nat.le_add_right _ _
 refine z00 Tryz.func190 rfl rfl rfl rfl rfl (fun E hn hb=>?_)
 repeat refine nx ?_
 refine z0N 3 900 1 (.ints .u8 []) rfl rfl (.inr (.inl ⟨_,rfl⟩)) ?_
 refine z09 (St.le_of (l:= [(0,nmV l),(3,.c (.own 900 1 0 ((l.take 0).flatMap z0i).length)),(4,lv (.int .i64 ((0:Nat):Int)))]) (h:= [(900,rB ((l.take 0).flatMap z0i))]) (by refine⟨?_,?_⟩<;>(repeat' (first | exact trivial | exact rfl | refine⟨?_,?_⟩))<;>first | exact rfl |(simp; done) | skip)) ?_
 refine z0h (ι:= {i:Nat//i≤l.length}) (fun i=>St.of [(0,nmV l),(3,.c (.own 900 1 0 ((l.take i.1).flatMap z0i).length)),(4,lv (.int .i64 (i.1:Int)))] [(900,rB ((l.take i.1).flatMap z0i))]) (fun i=>l.length -i.1) (fun i=>?_) ⟨0,Nat.zero_le _⟩
 obtain⟨i,hi⟩:=i
 dsimp only
 by_cases hi2:i<l.length
 ·have hq:l.getD (i:Int).toNat []=l.getD i []:=rfl
  have hm:=z1S (d:= []) hi2
  have hsn:(l.take (i+1)).flatMap z0i=(l.take i).flatMap z0i++z0i (l.getD i []):=by rw[z2j (d:= []) hi2,List.flatMap_append,List.flatMap_singleton]
  have hp1:=hpre (i+1)
  rw[hsn,List.length_append] at hp1
  have hok:=hr _ hm
  have hwl:=z5i (ofT 17) ((l.getD i []).flatMap atW)
  change _≤(z0i (l.getD i [])).length at hwl
  have hst:=zbD _ (hb1.2 _ hm).2 (z3X hok).2.2.1 (hb1.2 _ hm).1 (by omega)
  clear hok hwl
  clear hm
  generalize l.getD i []=a at*
  generalize z0i a=X at*
  repeat (first | refine nx ?_ | rw[hq])
  refine z07 ⟨i+1,by omega⟩ (by dsimp only; omega) (St.le_of ⟨⟨rfl,?_,rfl⟩,?_⟩)
  ·dsimp only; rw[hsn]; rfl
  ·dsimp only; rw[hsn]; rfl
 ·obtain rfl:i=l.length:=by omega
  rw[List.take_length]
  generalize l.flatMap z0i=X at*
  repeat refine nx ?_
  refine zcA 19 ?_
  repeat refine nx ?_
  exact rt1 []
set_option maxHeartbeats 4000000 in
theorem zjr (g:GnT) (hb1:GnB g) (h:z0F g=true) (hl:(g.2.2.flatMap z0i).length≤14400000):Ct Tryz.prog 156 [gnA g] [] (B8 (z0r g)) [] []:=by
 have ht:=zbt h
 have hmd:=zaV g.1
 have hat:=z3k g.1 (z1n g.1)
 have hbl:=hb1.l
 obtain⟨k,b,n⟩:=g
 unfold z0r
 dsimp only at*
 by_cases hk:k=4
 ·subst hk
  have hno:z15 n=true:=by
   unfold z0F at h
   rw[if_pos rfl,Bool.and_eq_true] at h
   exact h.2
  have hnw:=zhr n hb1.n (z7u hno).2 hl
  have hwl:=z0t (ofT 16) (n.flatMap z0i)
  rw[if_pos rfl]
  unfold z1M
  generalize z04 (ofT 16) (n.flatMap z0i)=W at*
  have hwr:=z22 (2,4,z1n 4) W ht (by omega)
  refine z00 Tryz.func156 rfl rfl rfl rfl rfl (fun E hn hb=>?_)
  repeat refine nx ?_
  exact rt1 []
 ·rw[if_neg hk]
  have hwr:=z22 (2,k,z1n k) b ht (by omega)
  refine z00 Tryz.func156 rfl rfl rfl rfl rfl (fun E hn hb=>?_)
  repeat refine nx ?_
  exact rt1 []
set_option maxHeartbeats 4000000 in
theorem zbE (l:List GnT) (hl0:l.length≤16000000) (hb1:∀ g ∈ l,GnB g) (hr:∀ g ∈ l,z0F g=true) (hw:(l.flatMap z0r).length≤14400000):Ct Tryz.prog 102 [gnV l] [] (B8 (l.flatMap z0r)) [] []:=by
 have hml:(gnR l).length=l.length:=List.length_map ..
 have hpre:∀ i,((l.take i).flatMap z0r).length≤(l.flatMap z0r).length:=fun i=>by
  conv=>rhs; rw[←List.take_append_drop i l,List.flatMap_append,List.length_append]
  exact Nat.le_add_right _ _
 refine z00 Tryz.func102 rfl rfl rfl rfl rfl (fun E hn hb=>?_)
 repeat refine nx ?_
 refine z0N 3 900 1 (.ints .u8 []) rfl rfl (.inr (.inl ⟨_,rfl⟩)) ?_
 refine z09 (St.le_of (l:= [(0,gnV l),(3,.c (.own 900 1 0 ((l.take 0).flatMap z0r).length)),(4,lv (.int .i64 ((0:Nat):Int)))]) (h:= [(900,rB ((l.take 0).flatMap z0r))]) (by refine⟨?_,?_⟩<;>(repeat' (first | exact trivial | exact rfl | refine⟨?_,?_⟩))<;>first | exact rfl |(simp; done) | skip)) ?_
 refine z0h (ι:= {i:Nat//i≤l.length}) (fun i=>St.of [(0,gnV l),(3,.c (.own 900 1 0 ((l.take i.1).flatMap z0r).length)),(4,lv (.int .i64 (i.1:Int)))] [(900,rB ((l.take i.1).flatMap z0r))]) (fun i=>l.length -i.1) (fun i=>?_) ⟨0,Nat.zero_le _⟩
 obtain⟨i,hi⟩:=i
 dsimp only
 by_cases hi2:i<l.length
 ·have hq:l.getD (i:Int).toNat default=l.getD i gn0:=rfl
  have hm:=z1S (d:=gn0) hi2
  have hsn:(l.take (i+1)).flatMap z0r=(l.take i).flatMap z0r++z0r (l.getD i gn0):=by rw[z2j (d:=gn0) hi2,List.flatMap_append,List.flatMap_singleton]
  have hp1:=hpre (i+1)
  rw[hsn,List.length_append] at hp1
  have hok:=hr _ hm
  have hwl:=zd5 hok
  have hst:=zjr _ (hb1 _ hm) hok (by omega)
  clear hok hwl
  clear hm
  generalize l.getD i gn0=a at*
  generalize z0r a=X at*
  obtain⟨k,b,n⟩:=a
  repeat (first | refine nx ?_ | rw[hq])
  refine z07 ⟨i+1,by omega⟩ (by dsimp only; omega) (St.le_of ⟨⟨rfl,?_,rfl⟩,?_⟩)
  ·dsimp only; rw[hsn]; rfl
  ·dsimp only; rw[hsn]; rfl
 ·obtain rfl:i=l.length:=by omega
  rw[List.take_length]
  repeat refine nx ?_
  refine z2d 2 ?_
  exact rt1 []
theorem zfL (t:z0g) (X:List Int) (ht:z0q t=true) (hl:X.length≤14400000) (hw:WfB X):Ct Tryz.prog 150 [B8 (z04 t X)] [] (B8 X) [] []:=by
 have hwl:=z0t t X
 have hrd:=z3o (z04 t X) 0 (Nat.zero_le _) (by omega) (z1B _ _ ht hw)
 have hat:=z4m [] X [] t ht (by omega)
 simp only[List.nil_append,List.append_nil,List.length_nil,Nat.zero_add] at hat
 rw[hat] at hrd
 have he:z04 t X=(tgL t++z0I X.length)++X:=by unfold z04; rfl
 have hdl:((z04 t X).take ((tgL t).length+(z0I X.length).length+X.length)).drop ((tgL t).length+(z0I X.length).length)=X:=by
  rw[he,List.take_of_length_le (by simp only[List.length_append]; omega),←List.length_append,List.drop_left]
 have hlen:(z04 t X).length=(tgL t).length+(z0I X.length).length+X.length:=by rw[he]; simp only[List.length_append]
 change Ct _ _ _ _ (.tup [z21 t,lv (.int .i64 (X.length:Int)),lv (.int .i64 (((tgL t).length+(z0I X.length).length:Nat):Int)),lv (.int .i64 0)]) _ _ at hrd
 generalize (tgL t).length+(z0I X.length).length=p at*
 generalize z04 t X=V at*
 refine z00 Tryz.func150 rfl rfl rfl rfl rfl (fun E hn hb=>?_)
 repeat refine nx ?_
 rw[show((V.take ((p:Int)+(X.length:Int)).toNat).drop (p:Int).toNat)=X from hdl]
 exact rt1 []
end Go.Proofs.YtaagjnlkinojcaaGreat

/-
  Chapter 16: the document's place and flags read. The conditions: rows of at most a hundred thousand bytes.
-/
import Derived.Test.YtaagjnlkinojcaaGreatK8
import Derived.Test.YtaagjnlkinojcaaGreatSxA
import Derived.Test.YtaagjnlkinojcaaGreatO7
namespace Go.Proofs.YtaagjnlkinojcaaGreat
set_option linter.unusedSimpArgs false
set_option linter.unusedVariables false
open Go Go.Sx
set_option maxRecDepth 10000
structure WhV (w:WhT):Prop where
 b:WhB w
 l:(w.1.flatMap z0r).length≤13000000
 s:(w.2.flatMap atW).length≤13000000
 w:WfB (w.2.flatMap atW)
set_option maxHeartbeats 4000000 in
theorem zf8 (b:Bool) (w:WhT) (h:b=true→WhV w) (hok:b=true→z2Q w=true):Ct Tryz.prog 93 [rwA b w] [] (.c (.own 0 1 0 (z1g (if b=true then some w else none)).length)) [] [rB (z1g (if b=true then some w else none))]:=by
 cases b
 ·rw[if_neg (by simp)]
  refine z00 Tryz.func93 rfl rfl rfl rfl rfl (fun E hn hb=>?_)
  repeat refine nx ?_
  refine z7V 2 900 1 (.ints .u8 []) rfl rfl (.inr (.inl ⟨_,rfl⟩)) ?_
  exact rt1 [900]
 ·replace h:=h rfl
  replace hok:=hok rfl
  rw[if_pos rfl]
  have hl1:=h.b.l
  unfold z2Q at hok
  by_cases hs:0<w.2.length
  ·rw[if_pos hs,Bool.and_eq_true,decide_eq_true_iff] at hok
   obtain⟨k1,k2⟩:=hok
   have hp:z1g (some w)=z04 (2,0,true) (z04 (2,1,true) (w.2.flatMap atW)):=by
    show z04 (2,0,true) (z2H w)=_
    unfold z2H
    rw[if_pos hs]
   rw[hp]
   have c0:=fun _:Unit=>z3k 0 true
   have c1:=fun _:Unit=>z3k 1 true
   have hg:=zbE [] (Nat.zero_le _) (fun _ h=>absurd h List.not_mem_nil) (fun _ h=>absurd h List.not_mem_nil) (Nat.zero_le _)
   have wA:=fun _:Unit=>z22 (2,0,true) [] (by decide) (Nat.zero_le _)
   have hst:=zbD w.2 h.b.a (z3X k2).2.2.1 h.b.s (by have:=h.s; omega)
   have hsl:=z0t (ofT 17) (w.2.flatMap atW)
   have hco:=zfL (ofT 17) (w.2.flatMap atW) (by decide) (by have:=h.s; omega) h.w
   have wB:=fun _:Unit=>z22 (2,1,true) (w.2.flatMap atW) (by decide) (by have:=h.s; omega)
   have hbl:=z0t (2,1,true) (w.2.flatMap atW)
   have wC:=fun _:Unit=>z58 (2,0,true) (z04 (2,1,true) (w.2.flatMap atW)) (by decide) (by have:=h.s; omega)
   have hq:([]:List GnT).flatMap z0r= []:=rfl
   rw[hq] at hg
   change Ct _ _ _ _ (B8 (z04 (ofT 17) (w.2.flatMap atW))) _ _ at hst
   have hss:=h.s
   clear h
   obtain⟨g,s⟩:=w
   obtain rfl:=List.eq_nil_of_length_eq_zero k1
   dsimp only at*
   have hml:(s.map atL).length=s.length:=List.length_map ..
   generalize s.flatMap atW=X at*
   generalize z04 (ofT 17) X=V at*
   generalize z04 (2,1,true) X=U at*
   refine z00 Tryz.func93 rfl rfl rfl rfl rfl (fun E hn hb=>?_)
   have c:=c0 ()
   have wr:=wA ()
   repeat refine nx ?_
   clear c wr
   have c:=c1 ()
   have wr:=wB ()
   repeat refine nx ?_
   clear c wr
   have c:=c0 ()
   have wr:=wC ()
   repeat refine nx ?_
   exact rt1 [88]
  ·rw[if_neg hs] at hok
   have hp:z1g (some w)=z04 (2,0,true) (z04 (2,0,true) (w.1.flatMap z0r)):=by
    show z04 (2,0,true) (z2H w)=_
    unfold z2H
    rw[if_neg hs]
   rw[hp]
   have c0:=z3k 0 true
   have hg:=zbE w.1 h.b.l h.b.g (z3f hok).2.2 (by have:=h.l; omega)
   have wA:=fun _:Unit=>z22 (2,0,true) (w.1.flatMap z0r) (by decide) (by have:=h.l; omega)
   have hbl:=z0t (2,0,true) (w.1.flatMap z0r)
   have wC:=fun _:Unit=>z58 (2,0,true) (z04 (2,0,true) (w.1.flatMap z0r)) (by decide) (by have:=h.l; omega)
   clear h
   obtain⟨g,s⟩:=w
   obtain rfl:=List.eq_nil_of_length_eq_zero (show s.length=0 by dsimp only at hs; omega)
   dsimp only at*
   generalize g.flatMap z0r=X at*
   generalize z04 (2,0,true) X=U at*
   refine z00 Tryz.func93 rfl rfl rfl rfl rfl (fun E hn hb=>?_)
   have wr:=wA ()
   repeat refine nx ?_
   clear wr
   have wr:=wC ()
   repeat refine nx ?_
   exact rt1 [88]
abbrev z6W (b:Bool) (w:WhT) (f:Bool×Bool×Bool×Bool) (r:List Int):Av:= .agg [.lf (.v (.bool b)),.lf (.recs 3 (gnR w.1)),.lf (z2g w.2),.lf (.v (.bool f.1)),.lf (.v (.bool f.2.1)),.lf (.v (.bool f.2.2.1)),.lf (.v (.bool f.2.2.2)),.lf (.ints .i64 r)]
theorem z2r (k:Int) (x:Bool):(z0p k x).length≤21:=by
 unfold z0p
 split
 ·exact z0t _ _
 ·exact Nat.zero_le _
theorem z98 (k:Int) {l:List Int} (h:z0Z l=true):(z1E k l).length≤23:=by
 unfold z1E
 by_cases h0:l.length=0
 ·rw[if_pos h0]; exact Nat.zero_le _
 ·rw[if_neg h0]
  have h1:=z0t (2,k,false) (flC l)
  have h2:=(z9Q h (fun e=>h0 (by rw[e]; rfl))).2
  omega
theorem zif {o:Option WhT} (h:∀ w,o=some w→WhV w):(z1g o).length≤13000060:=by
 cases o with
 | none=>exact Nat.zero_le _
 | some w=>
   have hv:=h w rfl
   have h1:=z0t (2,0,true) (z2H w)
   have h2:(z2H w).length≤13000020:=by
    unfold z2H
    split
    ·have:=z0t (2,1,true) (w.2.flatMap atW); have:=hv.s; omega
    ·have:=z0t (2,0,true) (w.1.flatMap z0r); have:=hv.l; omega
   show(z04 (2,0,true) (z2H w)).length≤_
   omega
set_option maxHeartbeats 4000000 in
theorem zf9 (b:Bool) (w:WhT) (f:Bool×Bool×Bool×Bool) (r:List Int) (h:b=true→WhV w) (hok:b=true→z2Q w=true) (hr:z0Z r=true):
  Ct Tryz.prog 36 [z6W b w f r] [] (B8 (z3R (if b=true then some w else none,f,r))) [] []:=by
 have hw:=zf8 b w h hok
 have t1:=z5x 1 f.1 (by decide)
 have t2:=z5x 2 f.2.1 (by decide)
 have t3:=zfK 3 r (by decide) hr
 have t4:=z5x 4 f.2.2.1 (by decide)
 have t5:=z5x 5 f.2.2.2 (by decide)
 have l0:=zif (o:=if b=true then some w else none) (fun w' e=>by cases b with | false=>cases e | true=>cases e; exact h rfl)
 have l1:=z2r 1 f.1
 have l2:=z2r 2 f.2.1
 have l3:=z98 3 hr
 have l4:=z2r 4 f.2.2.1
 have l5:=z2r 5 f.2.2.2
 have hof:=z2h 16
 unfold z3R z60
 dsimp only
 generalize z1g (if b=true then some w else none)=P at*
 generalize z0p 1 f.1=T1 at*
 generalize z0p 2 f.2.1=T2 at*
 generalize z1E 3 r=T3 at*
 generalize z0p 4 f.2.2.1=T4 at*
 generalize z0p 5 f.2.2.2=T5 at*
 have hwr:=z22 (ofT 16) (P++(T1++(T2++(T3++(T4++T5))))) (by decide) (by simp only[List.length_append]; omega)
 have ha:P++(T1++(T2++(T3++(T4++T5))))=P++T1++T2++T3++T4++T5:=by simp only[List.append_assoc]
 rw[ha] at hwr ⊢
 obtain⟨f1,f2,f3,f4⟩:=f
 obtain⟨g,s⟩:=w
 have h1:=fun _:Unit=>t1
 have h2:=fun _:Unit=>t2
 have h4:=fun _:Unit=>t4
 have h5:=fun _:Unit=>t5
 clear t1 t2 t4 t5
 refine z00 Tryz.func36 rfl rfl rfl rfl rfl (fun E hn hb=>?_)
 have c:=h1 ()
 repeat refine nx ?_
 clear c
 have c:=h2 ()
 repeat refine nx ?_
 clear c
 have c:=h4 ()
 repeat refine nx ?_
 clear c
 have c:=h5 ()
 repeat refine nx ?_
 refine zcA 33 ?_
 repeat refine nx ?_
 exact rt1 []
end Go.Proofs.YtaagjnlkinojcaaGreat
namespace Go.Proofs.YtaagjnlkinojcaaGreat
set_option linter.unusedSimpArgs false
set_option linter.unusedVariables false
open Go.Sx
set_option maxRecDepth 10000
def cnI (a b c:Bool):Nat→Int
 | 0=>0
 | 1=>if a=true then 1 else 0
 | 2=>(if a=true then 1 else 0)+(if b=true then 1 else 0)
 | _=>z7M a b c
abbrev b3V (a b c:Bool):Av:= .c (.lf (.recs 1 [[.v (.bool a)],[.v (.bool b)],[.v (.bool c)]]))
set_option maxHeartbeats 4000000 in
theorem zig (a b c:Bool):Ct Tryz.prog 85 [b3V a b c] [] (lv (.int .i64 (z7M a b c))) [] []:=by
 refine z00 Tryz.func85 rfl rfl rfl rfl rfl (fun E hn hb=>?_)
 repeat refine nx ?_
 refine z09 (St.le_of (l:= [(3,lv (.int .i64 (cnI a b c 0))),(6,b3V a b c),(7,lv (.int .i64 3)),(8,lv (.int .i64 ((0:Nat):Int)))]) (h:= []) (by refine⟨?_,?_⟩<;>(repeat' (first | exact trivial | exact rfl | refine⟨?_,?_⟩))<;>first | exact rfl |(simp; done) | skip)) ?_
 refine z0h (ι:= {i:Nat//i≤3}) (fun i=>St.of [(3,lv (.int .i64 (cnI a b c i.1))),(6,b3V a b c),(7,lv (.int .i64 3)),(8,lv (.int .i64 (i.1:Int)))] []) (fun i=>3 -i.1) (fun i=>?_) ⟨0,Nat.zero_le _⟩
 obtain⟨i,hi⟩:=i
 dsimp only
 obtain rfl | rfl | rfl | rfl:i=0∨i=1∨i=2∨i=3:=by omega
 ·cases a
  ·repeat refine nx ?_
   refine z07 ⟨1,by omega⟩ (by dsimp only; omega) (St.le_of ⟨⟨rfl,rfl,rfl,rfl⟩,trivial⟩)
  ·simp only[cnI]
   repeat refine nx ?_
   refine z07 ⟨1,by omega⟩ (by dsimp only; omega) (St.le_of ⟨⟨rfl,rfl,rfl,rfl⟩,trivial⟩)
 ·cases b
  ·cases a
   all_goals
    repeat refine nx ?_
    refine z07 ⟨2,by omega⟩ (by dsimp only; omega) (St.le_of ⟨⟨rfl,rfl,rfl,rfl⟩,trivial⟩)
  ·cases a
   all_goals
    simp only[cnI]
    repeat refine nx ?_
    refine z07 ⟨2,by omega⟩ (by dsimp only; omega) (St.le_of ⟨⟨rfl,rfl,rfl,rfl⟩,trivial⟩)
 ·cases c
  ·cases a<;>cases b
   all_goals
    repeat refine nx ?_
    refine z07 ⟨3,by omega⟩ (by dsimp only; omega) (St.le_of ⟨⟨rfl,rfl,rfl,rfl⟩,trivial⟩)
  ·cases a<;>cases b
   all_goals
    simp only[cnI]
    repeat refine nx ?_
    refine z07 ⟨3,by omega⟩ (by dsimp only; omega) (St.le_of ⟨⟨rfl,rfl,rfl,rfl⟩,trivial⟩)
 ·repeat refine nx ?_
  exact rt1 []
abbrev z6X (o:Option WhT) (f:Bool×Bool×Bool×Bool) (r:List Int):Av:= .agg [.lf (wpL o),.lf (.v (.bool f.1)),.lf (.v (.bool f.2.1)),.lf (.v (.bool f.2.2.1)),.lf (.v (.bool f.2.2.2)),.lf (.ints .i64 r)]
set_option maxHeartbeats 4000000 in
theorem z6Y (o:Option WhT) (f:Bool×Bool×Bool×Bool) (r:List Int) (h:z4M o) (hl:r.length≤16000000):Ct Tryz.prog 32 [z6X o f r] [] (lv (.bool (z3E (o,f,r)))) [] []:=by
 obtain⟨f1,f2,f3,f4⟩:=f
 have hc:=zig f1 f2 f4
 have hp:=zhP o r h hl
 unfold z3E
 dsimp only
 generalize z7M f1 f2 f4=n at*
 generalize (z5q o&&z0Z r)=X at*
 cases X
 ·rcases o with _ | w
  ·refine z00 Tryz.func32 rfl rfl rfl rfl rfl (fun E hn hb=>?_)
   repeat refine nx ?_
   exact rt1 []
  ·refine z00 Tryz.func32 rfl rfl rfl rfl rfl (fun E hn hb=>?_)
   repeat (first | refine nx ?_ | refine wgF (lv (.bool false)) hn ?_)
   exact rt1 []
 ·by_cases h2:n<2
  ·have e2:decide (n<2)=true:=decide_eq_true h2
   have eL:decide ((0:Int)<(r.length:Int))=decide (0<r.length):=decide_eq_decide.2 (by omega)
   rw[e2]
   generalize decide (0<r.length)=L at*
   generalize e3:decide (0<n)=P at*
   rcases o with _ | w
   ·cases L<;>cases P
    all_goals
     refine z00 Tryz.func32 rfl rfl rfl rfl rfl (fun E hn hb=>?_)
     repeat (first | refine nx ?_ | rw[e2] | rw[eL] | rw[e3])
     exact rt1 []
   ·refine z00 Tryz.func32 rfl rfl rfl rfl rfl (fun E hn hb=>?_)
    repeat (first | refine nx ?_ | rw[e2] | rw[eL] | rw[e3])
    refine zk3 rfl rfl ?_
    refine z0W (z0E (z4h (neg:=true) rfl rfl rfl rfl (by exact vcs)) rfl) (by rw[hn]; rfl) ?_
    repeat (first | refine nx ?_ | rw[e2] | rw[eL] | rw[e3])
    exact rt1 []
  ·have e2:decide (n<2)=false:=decide_eq_false h2
   rw[e2]
   rcases o with _ | w
   ·refine z00 Tryz.func32 rfl rfl rfl rfl rfl (fun E hn hb=>?_)
    repeat (first | refine nx ?_ | rw[e2])
    exact rt1 []
   ·refine z00 Tryz.func32 rfl rfl rfl rfl rfl (fun E hn hb=>?_)
    repeat (first | refine nx ?_ | rw[e2] | refine wgF (lv (.bool false)) hn ?_)
    exact rt1 []
end Go.Proofs.YtaagjnlkinojcaaGreat
namespace Go.Sx
set_option linter.unusedSimpArgs false
set_option linter.unusedVariables false
open Go
theorem z99 {P:Program} {E:Env} {σ:St} {o:Oper} {t e:TypeId} {n i:Nat} {y z:Operand} {p q:List Prop} {k:IntKind} {xs:List Cell} {c:Cell} (hop:o.op= .index t y z) (ht:P.underlying t=some (.array n e)) (he:P.cellsOf e=1) (hu:(P.underlying e).isSome=true) (hta:z2D P e=false)
  (hy:ox σ y=(p,.agg xs)) (hz:ox σ z=(q,lv (.int k (i:Int)))) (hp:z03 (p++q)) (hi:i<n) (hc:xs[i]? =some c):OpY P E o σ (.c c):=by
 refine z3c fun β F a w hS=>?_
 have h1:=oxR hS y
 rw[hy] at h1
 have h1:=h1 hp.left
 have h2:=oxR hS z
 rw[hz] at h2
 have h2:=(h2 hp.right).val
 generalize hv:a.eval y=v at h1
 cases h1 with | agg _ cs k1 k2=>
 have hlt:i<cs.size:=by rw[k1]; exact(List.getElem?_eq_some_iff.1 hc).1
 have hu2:cs[i]? =some cs[i]:=by simp[hlt]
 have hin:(P.info? e).isSome=true:=z0J (by rw[he]; decide)
 refine⟨cs[i],w,F,?_,.refl w,fun _ h=>h,fun _ h=> .inl h,.c (k2 i c _ hc hu2)⟩
 have hrun:(Instr.index t (.agg cs) (.int k (i:Int))).run P w= .ok cs[i] w:=by
  have c2:(i:Int)<(n:Int):=by omega
  simp[Instr.index,asIntOf,run_underlying ht,c2,z0K hin,he,part,z1K hu,hta,hlt,hi]
 simp only[execOp,hop,hv,h2,hrun,Sem.run_bind,Result.andThen_ok]
 rfl
end Go.Sx
namespace Go.Proofs.YtaagjnlkinojcaaGreat
open Go.Sx
set_option maxRecDepth 10000
set_option maxHeartbeats 4000000 in
theorem z6m (b:Bool) (w:WhT) (f:Bool×Bool×Bool×Bool) (r:List Int) (h:WhB w) (hl:r.length≤16000000):Ct Tryz.prog 33 [z6W b w f r] [] (lv (.bool (z3E (if b=true then some w else none,f,r)))) [] []:=by
 obtain⟨f1,f2,f3,f4⟩:=f
 have hw:=zgA b w h
 have hr:=zcE r hl
 refine z00 Tryz.func33 rfl rfl rfl rfl rfl (fun E hn hb=>?_)
 repeat refine nx ?_
 refine z0W (z0E (zku rfl rfl (by exact vcs)) rfl) (by rw[hn]; rfl) ?_
 repeat refine nx ?_
 refine z09 (St.le_of (l:= [(1,.c (.ptr 65 0)),(3,lv (.int .i64 (cnI f1 f2 f4 0))),(12,.agg [.lf (.v (.bool f1)),.lf (.v (.bool f2)),.lf (.v (.bool f4))]),(13,lv (.int .i64 ((0:Nat):Int)))]) (h:= [(65,.cells [.lf (.v (.bool b)),.lf (.recs 3 (gnR w.1)),.lf (z2g w.2),.lf (.v (.bool f1)),.lf (.v (.bool f2)),.lf (.v (.bool f3)),.lf (.v (.bool f4)),.lf (.ints .i64 r)])]) (by refine⟨?_,?_⟩<;>(repeat' (first | exact trivial | exact rfl | refine⟨?_,?_⟩))<;>first | exact rfl |(simp; done) | skip)) ?_
 refine z0h (ι:= {i:Nat//i≤3}) (fun i=>St.of [(1,.c (.ptr 65 0)),(3,lv (.int .i64 (cnI f1 f2 f4 i.1))),(12,.agg [.lf (.v (.bool f1)),.lf (.v (.bool f2)),.lf (.v (.bool f4))]),(13,lv (.int .i64 (i.1:Int)))] [(65,.cells [.lf (.v (.bool b)),.lf (.recs 3 (gnR w.1)),.lf (z2g w.2),.lf (.v (.bool f1)),.lf (.v (.bool f2)),.lf (.v (.bool f3)),.lf (.v (.bool f4)),.lf (.ints .i64 r)])]) (fun i=>3 -i.1) (fun i=>?_) ⟨0,Nat.zero_le _⟩
 obtain⟨i,hi⟩:=i
 dsimp only
 obtain rfl | rfl | rfl | rfl:i=0∨i=1∨i=2∨i=3:=by omega
 ·cases f1
  all_goals
   simp only[cnI]
   repeat refine nx ?_
   refine z0W (z0E (z99 (i:=0) rfl Tryz.underlying162 rfl rfl rfl rfl rfl (by trivial) (by decide) rfl) rfl) (by rw[hn]; rfl) ?_
   repeat refine nx ?_
   refine z07 ⟨1,by omega⟩ (by dsimp only; omega) (St.le_of ⟨⟨rfl,rfl,rfl,rfl⟩,rfl⟩)
 ·cases f1<;>cases f2
  all_goals
   simp only[cnI]
   repeat refine nx ?_
   refine z0W (z0E (z99 (i:=1) rfl Tryz.underlying162 rfl rfl rfl rfl rfl (by trivial) (by decide) rfl) rfl) (by rw[hn]; rfl) ?_
   repeat refine nx ?_
   refine z07 ⟨2,by omega⟩ (by dsimp only; omega) (St.le_of ⟨⟨rfl,rfl,rfl,rfl⟩,rfl⟩)
 ·cases f1<;>cases f2<;>cases f4
  all_goals
   simp only[cnI]
   repeat refine nx ?_
   refine z0W (z0E (z99 (i:=2) rfl Tryz.underlying162 rfl rfl rfl rfl rfl (by trivial) (by decide) rfl) rfl) (by rw[hn]; rfl) ?_
   repeat refine nx ?_
   refine z07 ⟨3,by omega⟩ (by dsimp only; omega) (St.le_of ⟨⟨rfl,rfl,rfl,rfl⟩,rfl⟩)
 ·change W _ _ _ _ (St.of [(1,.c (.ptr 65 0)),(3,lv (.int .i64 (z7M f1 f2 f4))),(12,.agg [.lf (.v (.bool f1)),.lf (.v (.bool f2)),.lf (.v (.bool f4))]),(13,lv (.int .i64 3))] _)
  unfold z3E
  dsimp only
  have hn0:0≤z7M f1 f2 f4:=by cases f1<;>cases f2<;>cases f4<;>decide
  generalize z7M f1 f2 f4=n at*
  have eL:decide ((0:Int)<(r.length:Int))=decide (0<r.length):=decide_eq_decide.2 (by omega)
  generalize decide (0<r.length)=L at*
  generalize z0Z r=R at*
  cases b
  ·rw[if_neg (by simp)]
   cases R
   ·repeat (first | refine nx ?_ | refine wgF (lv (.bool false)) hn ?_)
    exact rt1 []
   ·by_cases h2:n<2
    ·have e2:decide ((1:Int)<n)=false:=decide_eq_false (by omega)
     have e3:(n==1)=decide (0<n):=by rw[Bool.eq_iff_iff,beq_iff_eq,decide_eq_true_iff]; omega
     rw[decide_eq_true h2]
     generalize decide (0<n)=P at*
     cases L<;>cases P
     all_goals
      repeat (first | refine nx ?_ | rw[e2] | rw[e3] | rw[eL] | refine wgF (lv (.bool false)) hn ?_)
      exact rt1 []
    ·have e2:decide ((1:Int)<n)=true:=decide_eq_true (by omega)
     rw[decide_eq_false h2]
     repeat (first | refine nx ?_ | rw[e2] | refine wgF (lv (.bool false)) hn ?_)
     exact rt1 []
  ·rw[if_pos rfl,show z5q (some w)=z2Q w from rfl]
   generalize z2Q w=Z at*
   cases Z
   ·repeat (first | refine nx ?_ | refine wgF (lv (.bool false)) hn ?_)
    exact rt1 []
   ·cases R
    ·repeat (first | refine nx ?_ | refine wgF (lv (.bool false)) hn ?_)
     exact rt1 []
    ·by_cases h2:n<2
     ·have e2:decide ((1:Int)<n)=false:=decide_eq_false (by omega)
      have e3:(n==1)=decide (0<n):=by rw[Bool.eq_iff_iff,beq_iff_eq,decide_eq_true_iff]; omega
      rw[decide_eq_true h2]
      generalize decide (0<n)=P at*
      cases L<;>cases P
      all_goals
       repeat (first | refine nx ?_ | rw[e2] | rw[e3] | rw[eL] | refine wgF (lv (.bool false)) hn ?_)
       exact rt1 []
     ·have e2:decide ((1:Int)<n)=true:=decide_eq_true (by omega)
      rw[decide_eq_false h2]
      repeat (first | refine nx ?_ | rw[e2] | refine wgF (lv (.bool false)) hn ?_)
      exact rt1 []
end Go.Proofs.YtaagjnlkinojcaaGreat
namespace Go.Proofs.YtaagjnlkinojcaaGreat
set_option linter.unusedSimpArgs false
set_option linter.unusedVariables false
open Go.Sx
set_option maxRecDepth 10000
set_option maxHeartbeats 4000000 in
theorem zfa (b:Bool) (w:WhT) (f:Bool×Bool×Bool×Bool) (r:List Int) (h:WhI w) (hl:r.length≤9223372036854775807):Ct Tryz.prog 29 [z6W b w f r] [] (z6X (zdk b w) f (r.take 20)) [] []:=by
 have h1:=zfO b w h
 have h2:=zhH r (by omega)
 obtain⟨f1,f2,f3,f4⟩:=f
 obtain⟨g,s⟩:=w
 cases b
 ·change Ct _ _ _ _ (wpV none) _ _ at h1
  change Ct _ _ _ _ (z6X none _ _) _ _
  refine z00 Tryz.func29 rfl rfl rfl rfl rfl (fun E hn hb=>?_)
  repeat refine nx ?_
  exact rt1 []
 ·change Ct _ _ _ _ (wpV (some (z4K g,stT s))) _ _ at h1
  change Ct _ _ _ _ (z6X (some (z4K g,stT s)) _ _) _ _
  refine z00 Tryz.func29 rfl rfl rfl rfl rfl (fun E hn hb=>?_)
  repeat refine nx ?_
  exact rt1 []
set_option maxHeartbeats 4000000 in
theorem z6Z (o:Option WhT) (f:Bool×Bool×Bool×Bool) (r:List Int) (h:z4M o):Ct Tryz.prog 30 [z6X o f r] [] (z6W o.isSome (whD o) f r) [] []:=by
 have h1:=zfo o h
 obtain⟨f1,f2,f3,f4⟩:=f
 rcases o with _ |⟨g,s⟩
 ·refine z00 Tryz.func30 rfl rfl rfl rfl rfl (fun E hn hb=>?_)
  repeat refine nx ?_
  exact rt1 []
 ·refine z00 Tryz.func30 rfl rfl rfl rfl rfl (fun E hn hb=>?_)
  repeat refine nx ?_
  exact rt1 []
set_option maxHeartbeats 4000000 in
theorem z5P (b:Bool) (w:WhT) (f:Bool×Bool×Bool×Bool) (r:List Int) (h:WhB w) (hl:r.length≤16000000):Ct Tryz.prog 37 [z6W b w f r,z6W b w f r] [] (lv (.bool true)) [] []:=by
 have h1:=ziB b w h
 have h2:=zh6 r hl
 obtain⟨f1,f2,f3,f4⟩:=f
 obtain⟨g,s⟩:=w
 cases f1<;>cases f2<;>cases f3<;>cases f4
 all_goals
  refine z00 Tryz.func37 rfl rfl rfl rfl rfl (fun E hn hb=>?_)
  repeat refine nx ?_
  exact rt1 []
theorem z7L {α:Type} (z:α) (l:List Int) (p:Nat) (t:z0g) (rd:List Int→α×Nat×Int):z0l z l p t rd=(if(z1C l p t).2.2.1=true then(if(rd (z1C l p t).1).2.2=0 then(if(rd (z1C l p t).1).2.1<(z1C l p t).1.length then(z,(z1C l p t).2.1,7) else((rd (z1C l p t).1).1,(z1C l p t).2.1,0)) else(z,(z1C l p t).2.1,(rd (z1C l p t).1).2.2)) else(z,p,(z1C l p t).2.2.2)):=by
 unfold z0l z1C
 by_cases h1:isH l p t=true
 ·rw[if_pos h1,if_pos h1]
  by_cases h2:(z0m l p t).2.2=0
  ·rw[if_pos h2,if_pos h2,if_pos rfl]
  ·rw[if_neg h2,if_neg h2,if_neg Bool.false_ne_true]
 ·rw[if_neg h1,if_neg h1,if_neg Bool.false_ne_true]
theorem z70 (l:List Int) (p:Nat) (t:z0g):(z1C l p t).1.length≤l.length∧∀ x ∈ (z1C l p t).1,x ∈ l:=by
 have h:=z0H l p t
 unfold z1C
 split
 ·split
  ·exact h
  ·exact⟨Nat.zero_le _,fun x hx=>absurd hx (by simp)⟩
 ·exact⟨Nat.zero_le _,fun x hx=>absurd hx (by simp)⟩
theorem zaw {l:List Int} {p:Nat} {t:z0g} (h:¬ (z1C l p t).2.2.1=true):(z1C l p t).1= []∧(z1C l p t).2.1=p:=by
 unfold z1C at h ⊢
 split at h
 ·rename_i h1
  rw[if_pos h1]
  split at h
  ·exact absurd rfl h
  ·rename_i h2
   rw[if_neg h2]
   exact⟨rfl,rfl⟩
 ·rename_i h1
  rw[if_neg h1]
  exact⟨rfl,rfl⟩
theorem z9a {l:List Int} {p:Nat} {t:z0g} (h:(z1C l p t).2.2.1=true):(z1C l p t).2.2.2=0:=by
 unfold z1C at h ⊢
 split at h
 ·rename_i h1
  rw[if_pos h1]
  split at h
  ·rename_i h2
   rw[if_pos h2]
  ·exact absurd h Bool.false_ne_true
 ·exact absurd h Bool.false_ne_true
def z5k {α:Type} (p:Nat) (r:α×Nat×Int):Nat:=if r.2.2=0 then r.2.1 else p
set_option maxHeartbeats 4000000 in
theorem zfb (l:List Int) (p:Nat) (n:Int) (hp:p≤l.length) (hl:l.length≤11760000) (hw:WfB l):Ct Tryz.prog 59 [B8 l,lv (.int .i64 (p:Int)),lv (.int .i64 n)] [] (.tup [I64 (z0l [] l p (2,n,false) z2b).1,lv (.int .i64 (z5k p (z0l [] l p (2,n,false) z2b):Int)),lv (.int .i64 (z0l [] l p (2,n,false) z2b).2.2)]) [] []:=by
 have hnx:=z9g l p n false hp (by omega) hw
 have hm:=z70 l p (2,n,false)
 have hno:= @zaw l p (2,n,false)
 have hyes:= @z9a l p (2,n,false)
 rw[z7L]
 unfold z5k
 generalize z1C l p (2,n,false)=X at*
 obtain⟨x,q,T,e⟩:=X
 dsimp only at*
 cases T with
 | false=>
   obtain⟨rfl,rfl⟩:=hno (by decide)
   rw[if_neg (by decide)]
   dsimp only
   rw[ite_self]
   clear hno hyes hm
   by_cases he:e=0
   ·subst he
    refine z00 Tryz.func59 rfl rfl rfl rfl rfl (fun E hn hb=>?_)
    repeat refine nx ?_
    exact rtU []
   ·refine z00 Tryz.func59 rfl rfl rfl rfl rfl (fun E hn hb=>?_)
    repeat refine nx ?_
    exact rtU []
 | true=>
   obtain rfl:=hyes rfl
   rw[if_pos rfl]
   have hwx:WfB x:=fun z hz=>hw z (hm.2 z hz)
   have hpa:=zf1 x (by omega) hwx
   have hPr:=z9D (x:=x) hwx
   have hPn:= @zkP x
   unfold z2b
   dsimp only
   generalize z3e x=S at*
   obtain⟨u,s,k⟩:=S
   dsimp only at*
   cases k with
   | false=>
     have hPn:=hPn Bool.false_ne_true
     simp only[Prod.mk.injEq] at hPn
     obtain⟨rfl,rfl,_⟩:=hPn
     have hfl:=zbF 0 [] (by simp) (fun z hz=>absurd hz (by simp)) (by decide)
     generalize z4P 0 []=F at*
     obtain⟨f,fe⟩:=F
     refine z00 Tryz.func59 rfl rfl rfl rfl rfl (fun E hn hb=>?_)
     repeat (first | refine nx ?_ | refine wgF (lv (.bool false)) hn ?_)
     exact rtU []
   | true=>
     obtain⟨h1,h2,h3⟩:=hPr rfl
     have hfl:=zbF u s (by omega) h2 h1
     have hln:=z9b u s
     rw[if_pos rfl]
     generalize z4P u s=F at*
     obtain⟨f,fe⟩:=F
     dsimp only at*
     have hre:=zcE f (by omega)
     by_cases hfe:fe=0
     ·subst hfe
      by_cases h0:f= []
      ·subst h0
       rw[show(if(0:Int)=0∧([]:List Int)≠ []∧z0Z []=true then(([]:List Int),x.length,(0:Int)) else([],x.length,6))=([],x.length,6) from if_neg (fun h=>h.2.1 rfl)]
       simp only[show ¬ (6:Int)=0 by decide,if_false]
       refine z00 Tryz.func59 rfl rfl rfl rfl rfl (fun E hn hb=>?_)
       repeat (first | refine nx ?_ | refine wgF (lv (.bool false)) hn ?_)
       exact rtU []
      ·generalize hR:z0Z f=R at*
       cases R with
       | true=>
         rw[show(if(0:Int)=0∧f≠ []∧true=true then(f,x.length,(0:Int)) else([],x.length,6))=(f,x.length,0) from if_pos ⟨rfl,h0,rfl⟩]
         simp only[Nat.lt_irrefl,if_false,if_true]
         refine z00 Tryz.func59 rfl rfl rfl rfl rfl (fun E hn hb=>?_)
         repeat (first | refine nx ?_ | refine wgF (lv (.bool false)) hn ?_)
         exact rt1 []
       | false=>
         rw[show(if(0:Int)=0∧f≠ []∧false=true then(f,x.length,(0:Int)) else([],x.length,6))=([],x.length,6) from if_neg (fun h=>Bool.false_ne_true h.2.2)]
         simp only[show ¬ (6:Int)=0 by decide,if_false]
         refine z00 Tryz.func59 rfl rfl rfl rfl rfl (fun E hn hb=>?_)
         repeat (first | refine nx ?_ | refine wgF (lv (.bool false)) hn ?_)
         exact rtU []
     ·rw[show(if fe=0∧f≠ []∧z0Z f=true then(f,x.length,(0:Int)) else([],x.length,6))=([],x.length,6) from if_neg (fun h=>hfe h.1)]
      simp only[show ¬ (6:Int)=0 by decide,if_false]
      refine z00 Tryz.func59 rfl rfl rfl rfl rfl (fun E hn hb=>?_)
      repeat (first | refine nx ?_ | refine wgF (lv (.bool false)) hn ?_)
      exact rtU []
end Go.Proofs.YtaagjnlkinojcaaGreat

/-
  Chapter 16, plain: how long names, general names, points may be that the laws hand to the program. No condition.
-/
import Derived.Test.YtaagjnlkinojcaaGreatQ28
import Derived.Test.YtaagjnlkinojcaaGreatQ34
import Derived.Test.YtaagjnlkinojcaaGreatSxE
import Derived.Test.YtaagjnlkinojcaaGreatQ22
import Derived.Test.YtaagjnlkinojcaaGreatN1
import Derived.Test.YtaagjnlkinojcaaGreatSxK
import Derived.Test.YtaagjnlkinojcaaGreatN8
import Derived.Test.YtaagjnlkinojcaaGreatA19
namespace Go.Proofs.YtaagjnlkinojcaaGreat
set_option linter.unusedSimpArgs false
set_option linter.unusedVariables false
open Go.Sx
set_option maxRecDepth 10000
theorem zjE (t:Bool) (w:WhT) (h:WhB w):Ct Tryz.prog 66 [rwA t w,rwA t w] [] (lv (.bool true)) [] []:=by
 obtain⟨g,s⟩:=w
 have h1:=zbh g h.l h.g
 have h2:=zbg [s] ⟨Nat.le_of_ble_eq_true rfl,fun r hr=>by rw[List.mem_singleton.1 hr]; exact⟨h.s,h.a⟩⟩
 cases t
 ·refine z00 Tryz.func66 rfl rfl rfl rfl rfl (fun E hn hb=>?_)
  repeat (first | refine nx ?_ | refine lgE hn ?_)
  exact rt1 []
 ·refine z00 Tryz.func66 rfl rfl rfl rfl rfl (fun E hn hb=>?_)
  repeat (first | refine nx ?_ | refine lgE hn ?_)
  exact rt1 []
theorem zhJ (p:PtT) (h:PtB p):Ct Tryz.prog 18 [z9h p,z9h p] [] (lv (.bool true)) [] []:=by
 obtain⟨o,r,g⟩:=p
 obtain⟨h1,h2,h3,h4⟩:=h
 dsimp only at*
 have hw:=zjE o.isSome (whD o) (by cases o with | none=>exact⟨Nat.zero_le _,fun _ h=>absurd h List.not_mem_nil,Nat.zero_le _,fun _ h=>absurd h List.not_mem_nil⟩ | some w=>exact h1)
 have hi:=zh7 r h2
 have hg:=zbh g h3 h4
 refine z00 Tryz.func18 rfl rfl rfl rfl rfl (fun E hn hb=>?_)
 repeat refine nx ?_
 exact rt1 []
theorem zfZ (o:Option WhT) (h:z4I o):Ct Tryz.prog 23 [wpV o] [] (rwA o.isSome (whD o)) [] []:=by
 rcases o with _ |⟨g,s⟩
 ·refine z00 Tryz.func23 rfl rfl rfl rfl rfl (fun E hn hb=>?_)
  repeat refine nx ?_
  refine rtU [] (hu:=?_)
  exact⟨.inl rfl,.inr ⟨rfl,.inr ⟨_,rfl⟩⟩,.inr ⟨rfl,.inr ⟨_,rfl⟩⟩,trivial⟩
 ·have ha:=zcT g h.l h.g
  refine z00 Tryz.func23 rfl rfl rfl rfl rfl (fun E hn hb=>?_)
  repeat refine nx ?_
  refine z7H (fun a w h=>SR.cell_nilS 2 67 2 901 rfl rfl rfl rfl rfl h) ?_
  refine z09 (St.le_of (l:= [(0,wpV (some (g,s))),(3,.c (.ptr 67 0)),(2,.c (.ptr 66 0)),(4,lv (.int .i64 ((0:Nat):Int)))]) (h:= [(66,.cells [.lf (.v (.bool false)),.lf (.v (.slice none 0 0)),.lf (.v (.slice none 0 0))]),(67,.cells [.lf (.v (.bool true)),.lf (.recs 3 (gnR g)),.own 901 2 0 ((s.take 0).map atL).length]),(901,.row (.recs 2 ((s.take 0).map atL)))]) (by refine⟨?_,?_⟩<;>(repeat' (first | exact trivial | exact rfl | refine⟨?_,?_⟩))<;>first | exact rfl |(simp; done) | skip)) ?_
  refine z0k (ι:= {j:Nat//j≤s.length}) (fun j=>St.of [(0,wpV (some (g,s))),(3,.c (.ptr 67 0)),(2,.c (.ptr 66 0)),(4,lv (.int .i64 (j.1:Int)))] [(66,.cells [.lf (.v (.bool false)),.lf (.v (.slice none 0 0)),.lf (.v (.slice none 0 0))]),(67,.cells [.lf (.v (.bool true)),.lf (.recs 3 (gnR g)),.own 901 2 0 ((s.take j.1).map atL).length]),(901,.row (.recs 2 ((s.take j.1).map atL)))]) (fun j=>s.length -j.1) (fun j=>?_) ⟨0,Nat.zero_le _⟩
  obtain⟨j,hj⟩:=j
  dsimp only
  have hms:(s.map atL).length=s.length:=List.length_map ..
  have hrt:((s.take j).map atL).length=j:=by rw[List.length_map,List.length_take]; omega
  have hsl:=h.s
  dsimp only at hsl
  by_cases hj2:j<s.length
  ·have hq2:s.getD (j:Int).toNat default=s.getD j atD:=rfl
   have hsr:=z1Y (d:=atD) hj2
   generalize hB:s.getD j atD=a at*
   obtain⟨o,v⟩:=a
   repeat (first | refine nxw ?_)
   refine duF [107] [(20,107),(20,901),(22,67)] ?_
   repeat (first | refine nx ?_ | rw[hq2])
   refine z41 (fun a w h=>SR.mv 107 901 rfl rfl rfl rfl rfl h) ?_
   refine z08 ⟨j+1,by omega⟩ (by dsimp only; omega) (St.le_of ⟨⟨rfl,rfl,rfl,rfl⟩,⟨rfl,?_,?_⟩⟩)
   ·dsimp only; rw[hsr,z4Y]; rfl
   ·dsimp only; rw[hsr,z4Y]; rfl
  ·obtain rfl:j=s.length:=by omega
   rw[List.take_length]
   repeat refine nx ?_
   refine zpO 901 66 ?_
   exact rt1 []
theorem zeL (p:PtT) (h:PtB p):Ct Tryz.prog 19 [ptA p] [] (z9h p) [] []:=by
 obtain⟨o,r,g⟩:=p
 obtain⟨h1,h2,h3,h4⟩:=h
 dsimp only at*
 have hw:=zfZ o h1
 have hg:=zcT g h3 h4
 rcases o with _ |⟨g',s'⟩
 ·refine z00 Tryz.func19 rfl rfl rfl rfl rfl (fun E hn hb=>?_)
  repeat refine nx ?_
  exact rt1 []
 ·refine z00 Tryz.func19 rfl rfl rfl rfl rfl (fun E hn hb=>?_)
  repeat refine nx ?_
  exact rt1 []
end Go.Proofs.YtaagjnlkinojcaaGreat
namespace Go.Sx
open Go
set_option linter.unusedVariables false
set_option linter.unusedSimpArgs false
section
variable {P:Program} {E:Env} {ops:Array Oper} {σ:St}
theorem zrR {ns b own:List Nat} {bs:List (List Nat×List Nat)} {o:Oper} {l:List Oper} {K:St→Prop} {t:TypeId} {x:Operand} {ps:List Prop} {y:Av} {d:Nat} {cs:List Cell} (hop:o.op= .box t x) (hg:o.guard=none) (hd:o.dst=some d) (hE:z0e E.n (some d)=true) (hx:ox ⟨σ.tm,fgt b σ.hp⟩ x=(ps,y)) (hp:z03 ps) (hcs:z2C (z2f y) some=some cs) (hu:z3G y=false)
  (hgone:σ.hp (nk (some d) 0)= .gone) (hb:z0c (nk (some d) 0) b=false) (hns:z0c (nk (some d) 0) ns=true) (ho:z0c (nk (some d) 0) own=true)
  (hk:z0a P E ops ns bs l ((σ.seth (nk (some d) 0) (.cells cs)).put (some d) (.c (.ptr (nk (some d) 0) 0))) K):z0a P E ops ns ((b,own)::bs) (o::l) σ K:=by
 have eu:∀ hp:Nat→Blk,z1a hp [(nk (some d) 0,.cells cs)]=fun i=>if i=nk (some d) 0 then .cells cs else hp i:=fun hp=>z5U hp _ _
 refine z5D (x:= .c (.ptr (nk (some d) 0) 0)) (u:= [(nk (some d) 0,.cells cs)]) ?_ (zfD ho (by simp)) ?_
 ·intro τ hl β F a w hS hn K Q hK
  rw[show Region.wanted o (yielded ops a.tmps)=true by simp[Region.wanted,hg],if_pos rfl]
  have hgτ:τ.hp (nk (some d) 0)= .gone:=by rw[hl.hp _ hb]; exact hgone
  have hnb:E.nb≤nk (some d) 0:=by
   have:=hS.nbl
   simp only[nk,Option.getD_some,Nat.mul_zero,Nat.add_zero]
   omega
  have h1:=hn d hd hns
  have hcut:SRb E β F ⟨τ.tm,fgt b σ.hp⟩ a w:=hS.cut hl
  have x1:ox ⟨τ.tm,fgt b σ.hp⟩ x=ox ⟨σ.tm,fgt b σ.hp⟩ x:=hl.ox x (by rw[hop]; simp[Op.operands])
  have hv:=oxR hcut x
  rw[x1,hx] at hv
  obtain⟨k1,k2⟩:=z6U (hv hp) (z3P hcs) (by intro h; subst h; simp[z3G] at hu)
  obtain⟨β2,hS2,h4,h5⟩:=zeb (t:=t) hS h1 hnb hgτ k1 k2
  unfold Oper.wp
  have hrun:(execOp a.eval o).run P w= .ok (.value (.pointer (some ⟨w.heap.size,0,none⟩))) (w.alloc (.cells (a.eval x).cells t)):=by
   simp[execOp,hop,Instr.box,newVar,newRow]
  rw[hrun]
  refine hK _ _ β2 F ?_ fun k hk=>h5 k fun e=>?_
  ·rw[hd,eu]
   exact hS2.put (.c (.ptr _ _ _ h4)) (z0x hE)
  ·rw[e] at hk
   simp[z0N] at hk
 ·rw[eu,hd]
  exact hk
variable {nt:Nat} {ns b own:List Nat} {bs:List (List Nat×List Nat)} {o:Oper} {l:List Oper} {K:St→Prop}
theorem zxM {t:TypeId} {x:Operand} {ps:List Prop} {y:Av} {d:Nat} {cs:List Cell} (hn:E.n=nt) (hk:z0a P E ops ns bs l ((σ.seth (nk (some d) 0) (.cells cs)).put (some d) (.c (.ptr (nk (some d) 0) 0))) K) (hop:o.op= .box t x:=by exact rfl) (hg:o.guard=none:=by exact rfl) (hd:o.dst=some d:=by exact rfl) (hd0:z0e nt (some d)=true:=by exact rfl) (hx:ox ⟨σ.tm,fgt b σ.hp⟩ x=(ps,y):=by exact rfl) (hcs:z2C (z2f y) some=some cs:=by exact rfl) (hu:z3G y=false:=by exact rfl)
  (hgone:σ.hp (nk (some d) 0)= .gone:=by exact rfl) (hb:z0c (nk (some d) 0) b=false:=by exact rfl) (hns:z0c (nk (some d) 0) ns=true:=by exact rfl) (ho:z0c (nk (some d) 0) own=true:=by exact rfl) (hp:z03 ps:=by first | trivial |(simp; done)):z0a P E ops ns ((b,own)::bs) (o::l) σ K:=
 zrR hop hg hd (by rw[hn]; exact hd0) hx hp hcs hu hgone hb hns ho hk
end
section
variable {P:Program} {E:Env} {ops:Array Oper} {Q:Exit→Act→World→Prop} {rest:List Oper} {o:Oper} {σ:St}
end
end Go.Sx
namespace Go.Proofs.YtaagjnlkinojcaaGreat
set_option linter.unusedSimpArgs false
set_option linter.unusedVariables false
open Go.Sx
set_option maxRecDepth 10000
abbrev big:Nat:=9223372036854775807
abbrev zaF (n:Int) (l:List Int):List Int:=l.take (min (l.length:Int) n).toNat
abbrev atT (a:AtT):AtT:=(zaF 40 a.1,zaF 200 a.2)
def stT (r:List AtT):List AtT:=(r.take 20).map atT
def nmT (n:List (List AtT)):List (List AtT):=(n.take 70).map stT
def zdp (n:List (List AtT)):List (List AtT):=n.take (min (n.length:Int) 5).toNat
abbrev z7s (g:GnT):GnT:=(g.1,zaF 300 g.2.1,nmT (zdp g.2.2))
def z2L (l:List GnT):List GnT:=(l.take 20).map z7s
def zg0 (t:Bool) (w:WhT):Option WhT:=if t=true then some (z2L w.1,stT w.2) else none
structure AtI (a:AtT):Prop where
 o:a.1.length≤big
 l:a.2.length≤big
 w:WfB a.2
def StI (r:List AtT):Prop:=r.length≤big∧∀ a ∈ r,AtI a
def NmI (n:List (List AtT)):Prop:=n.length≤big∧∀ r ∈ n,StI r
structure GnI (g:GnT):Prop where
 l:g.2.1.length≤big
 w:WfB g.2.1
 n:NmI g.2.2
def zg1 (l:List GnT):Prop:=l.length≤big∧∀ g ∈ l,GnI g
theorem z5F {α β:Type} (f:α→β) (l:List α) (a:α):(l++ [a]).map f=l.map f++ [f a]:=List.map_append
set_option maxHeartbeats 8000000 in
theorem zbE (r:List AtT) (h:StI r):Ct Tryz.prog 69 [z3m r] [] (z3m (stT r)) [] []:=by
 have hms:(r.map atL).length=r.length:=List.length_map ..
 have hrl:=h.1
 refine z00 Tryz.func69 rfl rfl rfl rfl rfl (fun E hn hb=>?_)
 repeat refine nx ?_
 refine z10 3 900 2 (.recs 2 []) rfl rfl (.inr (.inr ⟨_,rfl⟩)) ?_
 refine z09 (St.le_of (l:= [(0,z3m r),(3,.c (.own 900 2 0 (((r.take 0).map atT).map atL).length)),(4,lv (.int .i64 ((0:Nat):Int)))]) (h:= [(900,.row (.recs 2 (((r.take 0).map atT).map atL)))]) (by refine⟨?_,?_⟩<;>(repeat' (first | exact trivial | exact rfl | refine⟨?_,?_⟩))<;>first | exact rfl |(simp; done) | skip)) ?_
 refine z0k (ι:= {i:Nat//i≤r.length∧i≤20}) (fun i=>St.of [(0,z3m r),(3,.c (.own 900 2 0 (((r.take i.1).map atT).map atL).length)),(4,lv (.int .i64 (i.1:Int)))] [(900,.row (.recs 2 (((r.take i.1).map atT).map atL)))]) (fun i=>20 -i.1) (fun i=>?_) ⟨0,Nat.zero_le _,Nat.zero_le _⟩
 obtain⟨i,hi,hi20⟩:=i
 dsimp only
 have hmt:(((r.take i).map atT).map atL).length=i:=by rw[List.length_map,List.length_map,List.length_take]; omega
 by_cases hc:i<r.length∧i<20
 ·obtain⟨hc1,hc2⟩:=hc
  have hq:r.getD (i:Int).toNat default=r.getD i atD:=rfl
  have hab:=h.2 _ (z1m (d:=atD) hc1)
  have hsn:=z1Y (d:=atD) hc1
  generalize r.getD i atD=a at*
  obtain⟨o,v⟩:=a
  have ho:=hab.o
  have hv:=hab.l
  dsimp only at ho hv
  repeat (first | refine nxw ?_ | rw[hq])
  refine duF [101] [(17,101),(17,900)] ?_
  repeat (first | refine nx ?_ | rw[hq])
  refine z41 (fun a w h=>SR.mv 101 900 rfl rfl rfl rfl rfl h) ?_
  refine z08 ⟨i+1,by omega,by omega⟩ (by dsimp only; omega) (St.le_of ⟨⟨rfl,?_,rfl⟩,?_⟩)
  ·dsimp only; rw[hsn,z5F,z4Y]; rfl
  ·dsimp only; rw[hsn,z5F,z4Y]; rfl
 ·have e:r.take i=r.take 20:=by
   rcases Nat.lt_or_ge i r.length with h1 | h1
   ·obtain rfl:i=20:=by omega
    rfl
   ·rw[List.take_of_length_le h1,List.take_of_length_le (by omega)]
  rw[e]
  by_cases h1:i<r.length
  ·repeat refine nx ?_
   refine z31 2 ?_
   exact rt1 []
  ·repeat refine nx ?_
   refine z31 2 ?_
   exact rt1 []
set_option maxHeartbeats 8000000 in
theorem zhK (n:List (List AtT)) (h:NmI n):Ct Tryz.prog 22 [nmV n] [] (nmV (nmT n)) [] []:=by
 have hms:(nmR n).length=n.length:=List.length_map ..
 have hrl:=h.1
 refine z00 Tryz.func22 rfl rfl rfl rfl rfl (fun E hn hb=>?_)
 repeat refine nx ?_
 refine z10 3 900 1 (.recs 1 []) rfl rfl (.inr (.inr ⟨_,rfl⟩)) ?_
 refine z09 (St.le_of (l:= [(0,nmV n),(3,.c (.own 900 1 0 (nmR ((n.take 0).map stT)).length)),(4,lv (.int .i64 ((0:Nat):Int)))]) (h:= [(900,.row (.recs 1 (nmR ((n.take 0).map stT))))]) (by refine⟨?_,?_⟩<;>(repeat' (first | exact trivial | exact rfl | refine⟨?_,?_⟩))<;>first | exact rfl |(simp; done) | skip)) ?_
 refine z0k (ι:= {i:Nat//i≤n.length∧i≤70}) (fun i=>St.of [(0,nmV n),(3,.c (.own 900 1 0 (nmR ((n.take i.1).map stT)).length)),(4,lv (.int .i64 (i.1:Int)))] [(900,.row (.recs 1 (nmR ((n.take i.1).map stT))))]) (fun i=>70 -i.1) (fun i=>?_) ⟨0,Nat.zero_le _,Nat.zero_le _⟩
 obtain⟨i,hi,hi70⟩:=i
 dsimp only
 have hmt:(nmR ((n.take i).map stT)).length=i:=by rw[List.length_map,List.length_map,List.length_take]; omega
 by_cases hc:i<n.length∧i<70
 ·obtain⟨hc1,hc2⟩:=hc
  have hq:n.getD (i:Int).toNat []=n.getD i []:=rfl
  have hof:=zbE _ (h.2 _ (z1m (d:= []) hc1))
  have hsn:=z1Y (d:= []) hc1
  generalize n.getD i []=r at*
  repeat (first | refine nx ?_ | rw[hq])
  refine z08 ⟨i+1,by omega,by omega⟩ (by dsimp only; omega) (St.le_of ⟨⟨rfl,?_,rfl⟩,?_⟩)
  ·dsimp only; rw[hsn,z5F,z6k]; rfl
  ·dsimp only; rw[hsn,z5F,z6k]; rfl
 ·have e:n.take i=n.take 70:=by
   rcases Nat.lt_or_ge i n.length with h1 | h1
   ·obtain rfl:i=70:=by omega
    rfl
   ·rw[List.take_of_length_le h1,List.take_of_length_le (by omega)]
  rw[e]
  by_cases h1:i<n.length
  ·repeat refine nx ?_
   refine z31 2 ?_
   exact rt1 []
  ·repeat refine nx ?_
   refine z31 2 ?_
   exact rt1 []
theorem zhL {n:List (List AtT)} (h:NmI n):NmI (zdp n):=
 ⟨Nat.le_trans (List.length_take_le' ..) h.1,fun r hr=>h.2 r (List.mem_of_mem_take hr)⟩
set_option maxHeartbeats 8000000 in
theorem zjF (g:GnT) (h:GnI g):Ct Tryz.prog 131 [gnA g] [] (gnA (z7s g)) [] []:=by
 have hof:=zhK _ (zhL h.n)
 have hbl:=h.l
 have hnl:=h.n.1
 obtain⟨k,b,n⟩:=g
 dsimp only at hof hbl hnl
 have hms:(nmR n).length=n.length:=List.length_map ..
 have e: .recs 1 ((nmR n).take (min ((nmR n).length:Int) 5).toNat)=nmL (zdp n):=by rw[hms,←List.map_take]; rfl
 rw[nmV,←e] at hof
 refine z00 Tryz.func131 rfl rfl rfl rfl rfl (fun E hn hb=>?_)
 repeat refine nx ?_
 exact rt1 []
theorem zdq (l:List GnT) (h:zg1 l):Ct Tryz.prog 68 [gnV l] [] (gnV (z2L l)) [] []:=by
 have hml:(gnR l).length=l.length:=List.length_map ..
 have hll:=h.1
 refine z00 Tryz.func68 rfl rfl rfl rfl rfl (fun E hn hb=>?_)
 repeat refine nx ?_
 refine z10 3 900 3 (.recs 3 []) rfl rfl (.inr (.inr ⟨_,rfl⟩)) ?_
 refine z09 (St.le_of (l:= [(0,gnV l),(3,.c (.own 900 3 0 (gnR ((l.take 0).map z7s)).length)),(4,lv (.int .i64 ((0:Nat):Int)))]) (h:= [(900,.row (.recs 3 (gnR ((l.take 0).map z7s))))]) (by refine⟨?_,?_⟩<;>(repeat' (first | exact trivial | exact rfl | refine⟨?_,?_⟩))<;>first | exact rfl |(simp; done) | skip)) ?_
 refine z0k (ι:= {i:Nat//i≤l.length∧i≤20}) (fun i=>St.of [(0,gnV l),(3,.c (.own 900 3 0 (gnR ((l.take i.1).map z7s)).length)),(4,lv (.int .i64 (i.1:Int)))] [(900,.row (.recs 3 (gnR ((l.take i.1).map z7s))))]) (fun i=>20 -i.1) (fun i=>?_) ⟨0,Nat.zero_le _,Nat.zero_le _⟩
 obtain⟨i,hi,hi20⟩:=i
 dsimp only
 have hmt:(gnR ((l.take i).map z7s)).length=i:=by rw[List.length_map,List.length_map,List.length_take]; omega
 by_cases hc:i<l.length∧i<20
 ·obtain⟨hc1,hc2⟩:=hc
  have hq:l.getD (i:Int).toNat default=l.getD i gn0:=rfl
  have hof:=zjF _ (h.2 _ (z1m (d:=gn0) hc1))
  have hsn:=z1Y (d:=gn0) hc1
  generalize l.getD i gn0=g at*
  obtain⟨k,b,n⟩:=g
  repeat (first | refine nx ?_ | rw[hq])
  refine z08 ⟨i+1,by omega,by omega⟩ (by dsimp only; omega) (St.le_of ⟨⟨rfl,?_,rfl⟩,?_⟩)
  ·dsimp only; rw[hsn,z5F,z4Z]; rfl
  ·dsimp only; rw[hsn,z5F,z4Z]; rfl
 ·have e:l.take i=l.take 20:=by
   rcases Nat.lt_or_ge i l.length with h1 | h1
   ·obtain rfl:i=20:=by omega
    rfl
   ·rw[List.take_of_length_le h1,List.take_of_length_le (by omega)]
  rw[e]
  by_cases h1:i<l.length
  ·repeat refine nx ?_
   refine z31 2 ?_
   exact rt1 []
  ·repeat refine nx ?_
   refine z31 2 ?_
   exact rt1 []
structure WhI (w:WhT):Prop where
 g:zg1 w.1
 s:StI w.2
theorem zg2 (t:Bool) (w:WhT) (h:WhI w):Ct Tryz.prog 21 [rwA t w] [] (wpV (zg0 t w)) [] []:=by
 have h1:=zdq _ h.g
 have h2:=zbE _ h.s
 obtain⟨g,s⟩:=w
 dsimp only at h1 h2
 cases t
 ·refine z00 Tryz.func21 rfl rfl rfl rfl rfl (fun E hn hb=>?_)
  repeat refine nx ?_
  exact rt1 []
 ·refine z00 Tryz.func21 rfl rfl rfl rfl rfl (fun E hn hb=>?_)
  repeat (first | refine nxw ?_ | refine duF [77] [(7,77)] ?_)
  repeat (first | refine nx ?_ | refine zxM hn ?_)
  refine z41 (fun a w h=>SR.frp 2 (ls:= [.recs 3 (gnR (z2L g)),z1s (stT s)]) rfl rfl hb rfl rfl h) ?_
  exact rt1 []
end Go.Proofs.YtaagjnlkinojcaaGreat
namespace Go.Proofs.YtaagjnlkinojcaaGreat
set_option linter.unusedSimpArgs false
set_option linter.unusedVariables false
open Go Go.Sx
set_option maxRecDepth 10000
theorem z8c {α:Type} (f:α→List Int) (B:Nat):∀ l:List α,(∀ x ∈ l,(f x).length≤B)→(l.flatMap f).length≤l.length*B
 | [],_=>by simp
 | a::l,h=>by
   have h1:=h a (List.mem_cons_self ..)
   have h2:=z8c f B l fun x hx=>h x (List.mem_cons_of_mem _ hx)
   rw[List.flatMap_cons,List.length_append,List.length_cons,Nat.add_mul]
   omega
theorem zq4 {a:AtT} (h:z1F a=true) (hl:a.2.length≤200):(atW a).length≤450:=by
 unfold z1F at h
 rw[Bool.and_eq_true] at h
 have h1:=z3N h.1
 have h2:=z0s (ofT 6) (z0v (z0Y a.1))
 have h3:=z0s (ofT 16) ((z1o a.1).1++a.2)
 have e:(z1o a.1).1=z05 (ofT 6) (z0v (z0Y a.1)):=by unfold z1o; rw[if_pos h.1]
 unfold atW
 rw[e] at h3 ⊢
 rw[List.length_append] at h3
 omega
theorem zdr {r:List AtT} (h:z0C r=true) (hl:∀ a ∈ r,a.2.length≤200):(z0g r).length≤7300:=by
 unfold z0C at h
 simp only[Bool.and_eq_true,decide_eq_true_iff,List.all_eq_true] at h
 obtain⟨⟨⟨h1,h2⟩,h3⟩,h4⟩:=h
 have h5:=z8c atW 450 r fun a ha=>zq4 (h3 a ha) (hl a ha)
 have h6:=z0s (ofT 17) (r.flatMap atW)
 have h7:r.length*450≤16*450:=Nat.mul_le_mul_right _ h2
 unfold z0g
 omega
theorem zjG {n:List (List AtT)} {m:Nat} (hm:n.length≤m) (h:∀ r ∈ n,z0C r=true) (hl:∀ r ∈ n,∀ a ∈ r,a.2.length≤200):(n.flatMap z0g).length≤m*7300:=by
 have h5:=z8c z0g 7300 n fun r hr=>zdr (h r hr) (hl r hr)
 exact Nat.le_trans h5 (Nat.mul_le_mul_right _ hm)
theorem z7t {n:List (List AtT)} (h:z15 n=true):n.length≤64∧∀ r ∈ n,z0C r=true:=by
 unfold z15 at h
 rwa[Bool.and_eq_true,decide_eq_true_iff,List.all_eq_true] at h
structure GnS (g:GnT):Prop where
 b:g.2.1.length≤300
 n:g.2.2.length≤5
 a:∀ r ∈ g.2.2,∀ a ∈ r,a.2.length≤200
theorem zeM {g:GnT} (h:z0G g=true) (hs:GnS g):(g.2.2.flatMap z0g).length≤36500:=by
 obtain⟨h1,h2,h3,h4⟩:=z51 h
 by_cases hk:g.1=4
 ·have hno:z15 g.2.2=true:=by
   unfold z0G at h
   rw[if_pos hk,Bool.and_eq_true] at h
   exact h.2
  exact zjG hs.n (z7t hno).2 hs.a
 ·rw[h4 hk]
  exact Nat.zero_le _
theorem zlk {g:GnT} (h:z0G g=true) (hs:GnS g):(z0l g).length≤36600:=by
 have h1:=zeM h hs
 have h2:=z0s (ofT 16) (g.2.2.flatMap z0g)
 have h3:=z0s (2,g.1,z1K g.1) (if g.1=4 then z1S g.2.2 else g.2.1)
 have h4:=hs.b
 unfold z0l
 split at h3
 ·rw[if_pos ‹_›]
  unfold z1S at*
  omega
 ·rw[if_neg ‹_›]
  omega
theorem z9p {l:List GnT} (h:∀ g ∈ l,z0G g=true) (hl:l.length≤20) (hs:∀ g ∈ l,GnS g):(l.flatMap z0l).length≤732000:=by
 have h5:=z8c z0l 36600 l fun g hg=>zlk (h g hg) (hs g hg)
 have h7:l.length*36600≤20*36600:=Nat.mul_le_mul_right _ hl
 omega
end Go.Proofs.YtaagjnlkinojcaaGreat

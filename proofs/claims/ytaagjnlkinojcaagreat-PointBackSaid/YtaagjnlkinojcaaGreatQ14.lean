/-
  Chapter 5: the flags of a string of bits, walked over the iterator. The conditions: a right string of at most 32 bits, the last one set.
-/
import Derived.Test.YtaagjnlkinojcaaGreatQ9
import Derived.Test.YtaagjnlkinojcaaGreatO7
import Derived.Test.YtaagjnlkinojcaaGreatN8
import Derived.RangeFuncBox
import Derived.RangeFuncLeaves
import Derived.RangeFuncNested
import Derived.Shelf.Abstract
import Derived.WalkKit
import Derived.OwnWalkIn
import Derived.TacticsInMore
import Derived.LoopNIn
import Derived.LoopIn
import Derived.Maps.AppendAt
namespace Go.Proofs.YtaagjnlkinojcaaGreat
set_option linter.unusedSimpArgs false
set_option linter.unusedVariables false
open Go.Sx
set_option maxRecDepth 10000
abbrev gnR (l:List GnT):List (List Leaf):=l.map gnL
abbrev gnV (l:List GnT):Av:= .c (.lf (.recs 3 (gnR l)))
theorem z4Z (l:List GnT) (g:GnT):gnR (l++ [g])=gnR l++ [gnL g]:=List.map_append
theorem zjg {x:List Int} {p q:Nat} {g:GnT} (hw:WfB x) (hp:p≤x.length) (h:z2z x p=(g,q,0)):p<q:=by
 have hle:=z6J x p hp
 obtain⟨_,h2⟩:=zbs hw h
 rw[h] at hle
 dsimp only at hle
 have hpos:0<(z0l g).length:=z1n _ _
 have hlen:=congrArg List.length h2
 rw[List.length_append,List.length_drop,List.length_drop] at hlen
 omega
set_option maxHeartbeats 8000000 in
theorem zl3 (l:List Int) (hl:l.length≤12000000) (hw:WfB l):Ct Tryz.prog 121 [.c (.ptr 0 0)] [z04 l 0] (.tup [gnV (z16 l).1,lv (.int .i64 (z16 l).2.2)]) [z04 l (z16 l).2.1] []:=by
 have hlf0:=z0S l 0 (Nat.zero_le _) (by omega)
 by_cases h0:l= []
 ·unfold z16
  rw[if_pos (by rw[h0]; rfl)]
  subst h0
  refine z00 Tryz.func121 rfl rfl rfl rfl rfl (fun E hn hb=>?_)
  repeat refine nx ?_
  exact rtU []
 obtain⟨R,hR⟩:∃ R,z16 l=R:=⟨_,rfl⟩
 rw[hR]
 unfold z16 at hR
 have hpos:0<l.length:=List.length_pos_iff.2 h0
 rw[if_neg (by omega)] at hR
 refine z00 Tryz.func121 rfl rfl rfl rfl rfl (fun E hn hb=>?_)
 repeat refine nx ?_
 refine z10 4 900 3 (.recs 3 []) rfl rfl (.inr (.inr ⟨_,rfl⟩)) ?_
 refine z09 (St.le_of (l:= [(0,.c (.ptr 0 0)),(4,.c (.own 900 3 0 (gnR []).length))]) (h:= [(0,z04 l 0),(900,.row (.recs 3 (gnR [])))]) (by refine⟨?_,?_⟩<;>(repeat' (first | exact trivial | exact rfl | refine⟨?_,?_⟩))<;>first | exact rfl |(simp; done) | skip)) ?_
 refine z0k (ι:= {s:Nat×Nat×List GnT//s.2.1≤l.length∧l.length -s.2.1<s.1∧s.2.2.length≤10000∧z3b l s.1 s.2.1 s.2.2=R}) (fun s=>St.of [(0,.c (.ptr 0 0)),(4,.c (.own 900 3 0 (gnR s.1.2.2).length))] [(0,z04 l s.1.2.1),(900,.row (.recs 3 (gnR s.1.2.2)))]) (fun s=>s.1.1) (fun s=>?_) ⟨(l.length+1,0,[]),Nat.zero_le _,by dsimp only; omega,by simp,hR⟩
 obtain⟨⟨f,pp,acc⟩,hpp,hf,h16,hx⟩:=s
 dsimp only at hpp hf h16 hx ⊢
 obtain⟨f,rfl⟩:∃ m,f=m+1:=⟨f -1,by omega⟩
 have hml:(gnR acc).length=acc.length:=List.length_map ..
 have hlf:=z0S l pp hpp (by omega)
 rw[z3b] at hx
 by_cases hlt:pp<l.length
 ·rw[if_pos hlt] at hx
  by_cases h6:acc.length=10000
  ·rw[if_pos h6] at hx
   subst hx
   repeat refine nx ?_
   exact rtU []
  ·rw[if_neg h6] at hx
   have hrd:=ziI l pp hpp (by omega) hw
   have hle:=z6J l pp hpp
   have hps:= @zjg l pp (z2z l pp).2.1 (z2z l pp).1 hw hpp
   generalize z2z l pp=S at*
   obtain⟨g,q1,e1⟩:=S
   dsimp only at hrd hx hle hps
   by_cases he1:e1=0
   ·subst he1
    rw[if_pos rfl] at hx
    have hps:=hps rfl
    obtain⟨k,b,n⟩:=g
    repeat refine nx ?_
    refine z08 ⟨(f,q1,acc++ [(k,b,n)]),hle.2,by dsimp only; omega,by simp; omega,hx⟩ (by dsimp only; omega) (St.le_of ⟨⟨rfl,?_⟩,⟨rfl,?_⟩⟩)
    ·dsimp only; rw[z4Z]; rfl
    ·dsimp only; rw[z4Z]; rfl
   ·rw[if_neg he1] at hx
    subst hx
    repeat refine nx ?_
    exact rtU []
 ·rw[if_neg hlt] at hx
  subst hx
  repeat refine nx ?_
  refine z31 2 ?_
  exact rt1 []
abbrev zpL (x:List GnT) (e:Int):Av:= .tup [gnV x,lv (.int .i64 e)]
theorem zcY (l:List Int):(z16 l).2.1≤l.length:=by
 unfold z16
 split
 ·exact Nat.zero_le _
 ·exact(zd2 l _ 0 [] (Nat.zero_le _)).2
def z1D (l:List Int):List GnT×Nat×Int:=z0U [] 0 (z16 l)
theorem z8Z (l:List Int) (hl:l.length≤12000000) (hw:WfB l):Ct Tryz.prog 56 [.c (.ptr 0 0)] [z04 l 0] (zpL (z1D l).1 (z1D l).2.2) [z04 l (z1D l).2.1] []:=by
 have h:=zl3 l hl hw
 have hle:=zcY l
 have hat:=z1z l 0
 have hk:Ct Tryz.prog 120 [.c (.ptr 0 0),.c (.fn (.func 121) [] [])] [z04 l 0] (zpL (z1D l).1 (z1D l).2.2) [z04 l (z1D l).2.1] []:=by
  unfold z1D
  generalize z16 l=R at*
  obtain⟨x,q,e⟩:=R
  dsimp only at*
  by_cases he:e=0
  ·subst he
   rw[z34 _ _ _ rfl]
   refine z00 Tryz.func120 rfl rfl rfl rfl rfl (fun E hn hb=>?_)
   repeat refine nx ?_
   exact rt1 []
  ·rw[z3k _ _ _ he]
   have hbk:=z1L l q 0 (Nat.zero_le _) (by omega)
   refine z00 Tryz.func120 rfl rfl rfl rfl rfl (fun E hn hb=>?_)
   repeat refine nx ?_
   exact rtU []
 refine z00 Tryz.func56 rfl rfl rfl rfl rfl (fun E hn hb=>?_)
 repeat refine nx ?_
 exact rt1 []
theorem zhg {b:List Int} (h:∀ j,j<b.length→b.getD j 0≤127):z3A b=decide (0<b.length):=by
 unfold z3A
 rw[z9E (p:=fun x=>decide (x≤127)) (d:=0) fun j hj=>decide_eq_true (h j hj),Bool.and_true]
theorem zfO {b:List Int} {j:Nat} (hj:j<b.length) (h:127<b.getD j 0):z3A b=false:=by
 unfold z3A
 rw[z7K (p:=fun x=>decide (x≤127)) (d:=0) hj (fun hh=>by rw[decide_eq_true_eq] at hh; omega),Bool.and_false]
abbrev gnB (k:Int) (b:List Int) (n:List (List AtT)):Blk:= .cells [.lf (.v (.int .i64 k)),.lf (.ints .u8 b),.lf (nmL n)]
set_option maxHeartbeats 16000000 in
theorem zfP (g:GnT) (h:GnB g):Ct Tryz.prog 154 [gnA g] [] (lv (.bool (z0G g))) [] []:=by
 obtain⟨k,b,n⟩:=g
 obtain⟨hl,hw,hn1⟩:=h
 dsimp only at hl hw hn1
 have hr:=zdL n hn1
 have hml:(nmR n).length=n.length:=List.length_map ..
 unfold z0G
 dsimp only
 by_cases hk:k=4
 ·subst hk
  rw[if_pos rfl]
  generalize z15 n=N at*
  refine z00 Tryz.func154 rfl rfl rfl rfl rfl (fun E hn hb=>?_)
  repeat refine nx ?_
  refine rt2 [] (congrArg (fun x=>lv (.bool x)) ?_) trivial
  by_cases h0:b.length=0
  ·simp[h0]
  ·rw[show((b.length:Int)==0)=false by rw[beq_eq_false_iff_ne]; omega]
   simp[h0]
 rw[if_neg hk]
 by_cases hn0:n.length=0
 ·obtain rfl:=List.eq_nil_of_length_eq_zero hn0
  rw[decide_eq_true hn0,Bool.true_and]
  clear hr hml
  by_cases hp:k=1∨k=2∨k=6
  ·have hcg:z4d k b=z3A b:=if_pos hp
   rw[hcg]
   obtain⟨B,hB⟩:∃ B,z3A b=B:=⟨_,rfl⟩
   rw[hB]
   rcases hp with rfl | rfl | rfl
   all_goals
    refine z00 Tryz.func154 rfl rfl rfl rfl rfl (fun E hn hb=>?_)
    repeat refine nx ?_
    refine z09 (St.le_of (l:= [(1,.c (.ptr 65 0)),(3,lv (.int .i64 (b.length:Int))),(4,lv (.int .i64 ((0:Nat):Int)))]) (h:= [(65,gnB _ b [])]) (by refine⟨?_,?_⟩<;>(repeat' (first | exact trivial | exact rfl | refine⟨?_,?_⟩))<;>first | exact rfl |(simp; done) | skip)) ?_
    refine z0k (ι:= {i:Nat//i≤b.length∧∀ j,j<i→b.getD j 0≤127}) (fun i=>St.of [(1,.c (.ptr 65 0)),(3,lv (.int .i64 (b.length:Int))),(4,lv (.int .i64 (i.1:Int)))] [(65,gnB _ b [])]) (fun i=>b.length -i.1) (fun i=>?_) ⟨0,Nat.zero_le _,fun j hj=>by omega⟩
    obtain⟨i,hi,hu⟩:=i
    dsimp only
    by_cases hi2:i<b.length
    ·have hq:b.getD (i:Int).toNat 0=b.getD i 0:=rfl
     have hno:= @zfO b i hi2
     by_cases hx:127<b.getD i 0
     ·rw[hno hx] at hB
      subst hB
      clear hno
      generalize b.getD i 0=X at*
      repeat (first | refine nx ?_ | rw[hq])
      exact rt1 []
     ·clear hno
      generalize hX:b.getD i 0=X at*
      repeat (first | refine nx ?_ | rw[hq])
      refine z08 ⟨i+1,hi2,fun j hj=>by
       by_cases e:j=i
       ·subst e; omega
       ·exact hu j (by omega)⟩ (by dsimp only; omega) (St.le_of ⟨⟨rfl,rfl,rfl⟩,rfl⟩)
    ·obtain rfl:i=b.length:=by omega
     rw[zhg hu] at hB
     subst hB
     repeat refine nx ?_
     refine rt2 [] (congrArg (fun x=>lv (.bool x)) ?_) trivial
     rw[Bool.eq_iff_iff]
     simp
  by_cases h7:k=7
  ·subst h7
   show Ct _ _ _ _ (lv (.bool (decide (b.length=4)||decide (b.length=16)))) _ _
   refine z00 Tryz.func154 rfl rfl rfl rfl rfl (fun E hn hb=>?_)
   repeat refine nx ?_
   refine rt2 [] (congrArg (fun x=>lv (.bool x)) ?_) trivial
   by_cases h4:b.length=4
   ·simp[h4]
   ·by_cases h16:b.length=16
    ·simp[h16]
    ·rw[show((b.length:Int)==4)=false by rw[beq_eq_false_iff_ne]; omega,show((b.length:Int)==16)=false by rw[beq_eq_false_iff_ne]; omega]
     simp[h4,h16]
  have ho:=zfM b (by omega) hw
  have hh:=z60 b 0 (Nat.zero_le _) hl hw
  by_cases h8:k=8
  ·subst h8
   show Ct _ _ _ _ (lv (.bool (decide ((z2J b).2=0)))) _ _
   refine z00 Tryz.func154 rfl rfl rfl rfl rfl (fun E hn hb=>?_)
   repeat refine nx ?_
   exact rt1 []
  by_cases h05:k=0∨k=3∨k=5
  ·have hcg:z4d k b=z4q b:=by
    unfold z4d
    rw[if_neg hp,if_neg h7,if_neg h8,if_pos h05]
   rw[hcg]
   unfold z4q
   generalize z12 b 0=W at*
   obtain⟨rs,e⟩:=W
   dsimp only at*
   rcases h05 with rfl | rfl | rfl
   all_goals
    refine z00 Tryz.func154 rfl rfl rfl rfl rfl (fun E hn hb=>?_)
    repeat refine nx ?_
    refine rt2 [] (congrArg (fun x=>lv (.bool x)) ?_) trivial
    by_cases he:e=0
    ·simp[he]
    ·simp[he]
  ·have hcg:z4d k b=false:=by
    unfold z4d
    rw[if_neg hp,if_neg h7,if_neg h8,if_neg h05]
   rw[hcg]
   have k1:k≠1:=fun e=>hp (.inl e)
   have k2:k≠2:=fun e=>hp (.inr (.inl e))
   have k6:k≠6:=fun e=>hp (.inr (.inr e))
   have k0:k≠0:=fun e=>h05 (.inl e)
   have k3:k≠3:=fun e=>h05 (.inr (.inl e))
   have k5:k≠5:=fun e=>h05 (.inr (.inr e))
   refine z00 Tryz.func154 rfl rfl rfl rfl rfl (fun E hn hb=>?_)
   repeat refine nx ?_
   exact rt1 []
 ·have hpos:0<n.length:=by omega
  rw[decide_eq_false hn0,Bool.false_and]
  refine z00 Tryz.func154 rfl rfl rfl rfl rfl (fun E hn hb=>?_)
  repeat refine nx ?_
  exact rt1 []
theorem zxI:∀ k:Fin 8,∀ x:Fin 256,(Go.IntKind.u8.wrap (BitVec.ofInt Go.IntKind.u8.bits (((x.val:Nat):Int)/2^min k.val Go.IntKind.u8.bits)&&& BitVec.ofInt Go.IntKind.u8.bits 1).toNat==1)=decide (((x.val:Nat):Int)/2^k.val%2=1):=by decide+kernel
theorem z8H (u:Int) (l:List Int) (hl:l.length≤16000000) (hw:WfB l) (hr:z14 u l=true) (hu:0≤u∧u≤7):Ct Tryz.prog 162 [z4e u l] [] (lv (.int .i64 (8*(l.length:Int) -u))) [] []:=by
 have h:=z4m u l hl hw
 rw[hr] at h
 refine z00 Tryz.func162 rfl rfl rfl rfl rfl (fun E hn hb=>?_)
 repeat refine nx ?_
 exact rt1 []
theorem zax (u:Int) (l:List Int) (i:Nat) (hl:l.length≤16000000) (hw:WfB l) (hi:i/8<l.length):Ct Tryz.prog 163 [z4e u l,lv (.int .i64 (i:Int))] [] (lv (.bool (z33 l i))) [] []:=by
 have hx:=zgl hw (i/8)
 refine z00 Tryz.func163 rfl rfl rfl rfl rfl (fun E hn hb=>?_)
 repeat refine nx ?_
 refine rt2 [] (congrArg (fun x=>lv (.bool x)) ?_) trivial
 obtain⟨y,hy⟩:∃ y:Nat,l.getD (i/8) 0=y:=⟨(l.getD (i/8) 0).toNat,by omega⟩
 unfold z33
 rw[show((i:Int)/8).toNat=i/8 by omega,show(7 -(i:Int)%8).toNat=7 -i%8 by omega,hy]
 exact zxI ⟨7 -i%8,by omega⟩ ⟨y,by omega⟩
end Go.Proofs.YtaagjnlkinojcaaGreat
namespace Go.Proofs.YtaagjnlkinojcaaGreat
set_option linter.unusedSimpArgs false
set_option linter.unusedVariables false
open Go Go.Sx Go.RowKit Go.Shelf
attribute [local go_sem] Oper.semAt_some
set_option maxRecDepth 100000
theorem z6y {P:Program} {f:FuncId} {args:List Av} {res:Av} (h:Ct P f args [] res [] []) (n₀:Nat) (w:World) (vs:List Value) (hn:n₀≤w.heap.size) (hl:vs.length=args.length)
  (ha:∀(i:Nat) (x:Av) (v:Value),args[i]? =some x→vs[i]? =some v→AvR (fun _=>none) (fun b=>b<n₀) w x v) (hgd:GdK w (fun _=>False)):
  Calls P f vs.toArray w fun e w'=>∃ v β' F',e= .returned v∧AvR β' F' w' res v∧w.grownBy w' none:=by
 refine(h.2.2 w (fun _=>none) (fun b=>b<n₀) vs hl ha (fun i b hb=>by simp at hb) (fun i j g hi=>by simp at hi) (fun j g hj=>by simp at hj) (fun _ _=>rfl) (fun b hb=>by omega) (fun p hp=>⟨fun hm=>by obtain⟨i,hi,_⟩:=hm; simp at hi,(hgd p hp).2⟩)).mono ?_
 rintro e w' ⟨v,β',F',h1,h2,_,_,ho⟩
 refine⟨v,β',F',h1,h2,?_⟩
 exact⟨ho.keep.os,ho.keep.tape,ho.keep.output,ho.keep.size,fun k hk _=>ho.keep.block k hk (fun hm=>by obtain⟨i,hi,_⟩:=hm; simp at hi)⟩
abbrev ByR (n₀:Nat) (w:World) (sv:Value) (l:List Int):Prop:=LfR (fun b=>b<n₀) w (.ints .u8 l) sv
theorem ByR.below {n₀:Nat} {w w':World} {sv:Value} {l:List Int} (h:ByR n₀ w sv l) (hb:Below n₀ w w'):ByR n₀ w' sv l:=h.mono fun b hb'=>⟨hb',hb.block b hb'⟩
theorem zjh {n₀:Nat} {w:World} {sv:Value} {u:Int} {l:List Int} (h:ByR n₀ w sv l):AvR (fun _=>none) (fun b=>b<n₀) w (z4e u l) (.agg #[.int .i64 u,sv]):=
 .agg _ _ rfl fun i x v hx hv=>by
   match i,hx,hv with
   | 0,hx,hv=>simp at hx hv; subst hx; subst hv; exact .lf (.v _ rfl)
   | 1,hx,hv=>simp at hx hv; subst hx; subst hv; exact .lf h
theorem zcZ (w:World):GdK w (fun _=>False):=fun p hp=>by cases hp
theorem zdR {n₀:Nat} {w:World} {sv:Value} {u:Int} {l:List Int} (h:ByR n₀ w sv l) (hn:n₀≤w.heap.size) (hl:l.length≤16000000) (hw:WfB l) (hr:z14 u l=true):
  Calls Tryz.prog 160 #[.agg #[.int .i64 u,sv]] w fun e w'=>e= .returned (.bool true)∧w.grownBy w' none:=by
 have hc:=z4m u l hl hw
 rw[hr] at hc
 refine(z6y hc n₀ w [.agg #[.int .i64 u,sv]] hn rfl (fun i x v hx hv=>?_) (zcZ w)).mono ?_
 ·match i,hx,hv with
  | 0,hx,hv=>simp at hx hv; subst hx; subst hv; exact zjh h
 ·rintro e w' ⟨v,β',F',rfl,h2,h3⟩
  have:=h2.val
  subst this
  exact⟨rfl,h3⟩
theorem zbl {n₀:Nat} {w:World} {sv:Value} {u:Int} {l:List Int} (h:ByR n₀ w sv l) (hn:n₀≤w.heap.size) (hl:l.length≤16000000) (hw:WfB l) (hr:z14 u l=true) (hu:0≤u∧u≤7):
  Calls Tryz.prog 162 #[.agg #[.int .i64 u,sv]] w fun e w'=>e= .returned (.int .i64 (8*(l.length:Int) -u))∧w.grownBy w' none:=by
 have hc:=z8H u l hl hw hr hu
 refine(z6y hc n₀ w [.agg #[.int .i64 u,sv]] hn rfl (fun i x v hx hv=>?_) (zcZ w)).mono ?_
 ·match i,hx,hv with
  | 0,hx,hv=>simp at hx hv; subst hx; subst hv; exact zjh h
 ·rintro e w' ⟨v,β',F',rfl,h2,h3⟩
  have:=h2.val
  subst this
  exact⟨rfl,h3⟩
theorem zbm {n₀:Nat} {w:World} {sv:Value} {u:Int} {l:List Int} (i:Nat) (h:ByR n₀ w sv l) (hn:n₀≤w.heap.size) (hl:l.length≤16000000) (hw:WfB l) (hi:i/8<l.length):
  Calls Tryz.prog 163 #[.agg #[.int .i64 u,sv],.int .i64 (i:Int)] w fun e w'=>e= .returned (.bool (z33 l i))∧w.grownBy w' none:=by
 have hc:=zax u l i hl hw hi
 refine(z6y hc n₀ w [.agg #[.int .i64 u,sv],.int .i64 (i:Int)] hn rfl (fun i x v hx hv=>?_) (zcZ w)).mono ?_
 ·match i,hx,hv with
  | 0,hx,hv=>simp at hx hv; subst hx; subst hv; exact zjh h
  | 1,hx,hv=>simp at hx hv; subst hx; subst hv; exact .c (.lf (.v _ rfl))
 ·rintro e w' ⟨v,β',F',rfl,h2,h3⟩
  have:=h2.val
  subst this
  exact⟨rfl,h3⟩
def z2i (l:List Int) (k:Nat):List Nat:=(List.range k).filter (z33 l)
theorem zfQ (l:List Int) (k:Nat):z2i l (k+1)=if z33 l k=true then z2i l k++ [k] else z2i l k:=by
 unfold z2i
 rw[List.range_succ,List.filter_append]
 split
 ·rename_i h; simp[h]
 ·rename_i h; simp[h]
theorem zhh (l:List Int) (k:Nat):(z2i l k).length≤k:=by
 have:=List.length_filter_le (z33 l) (List.range k)
 simpa[z2i] using this
theorem zhi (l:List Int) {q k:Nat} (h:q<k):z2i l (q+1)<+:z2i l k:=by
 unfold z2i
 have:List.range k=List.range (q+1)++(List.range (k -(q+1))).map (q+1+ ·):=by
  rw[←List.range_add]
  congr 1
  omega
 rw[this,List.filter_append]
 exact List.prefix_append _ _
set_option maxHeartbeats 1000000 in
theorem zep (n:Nat) (u:Int) (sv:Value) (w:World):
  CallsIn Fence.wide n Tryz.prog 164 #[.agg #[.int .i64 u,sv]] w fun e w'=>e= .returned (.func (.func 194) #[] #[.pointer (some ⟨w.heap.size,0,none⟩)])∧w'=w.alloc (.cells #[.int .i64 u,sv] 198):=by
 refine callsIn_of_wp Tryz.func164 rfl trivial ?_ rfl
 simp only[Tryz.ntmps164,List.size_toArray,List.length_cons,List.length_nil,Nat.reduceAdd,Nat.reduceSub,Array.replicate_succ,Array.replicate_zero,List.push_toArray,List.append_toArray,List.nil_append,List.cons_append]
 gi_wp2
 go_ret
 exact⟨rfl,rfl⟩
def KpB (n₀ Bs:Nat) (A B:World):Prop:=Below n₀ A B∧B.heap[Bs]? =A.heap[Bs]?
theorem KpB.trans {n₀ Bs:Nat} {A B C:World} (h:KpB n₀ Bs A B) (k:KpB n₀ Bs B C):KpB n₀ Bs A C:=⟨h.1.trans k.1,k.2.trans h.2⟩
theorem KpB.grown {n₀ Bs:Nat} {A B:World} (hg:A.grownBy B none) (hn:n₀≤A.heap.size) (hB:Bs<A.heap.size):KpB n₀ Bs A B:=⟨(Below.refl n₀ A).grown hg hn (by simp),hg.block Bs hB (by simp)⟩
theorem z3R {w:World} {B:Nat} {u:Int} {sv:Value} (h:w.heap[B]? =some (.cells #[.int .i64 u,sv] 198 (0,0))):w.cell? ⟨B,0,none⟩=some (.int .i64 u)∧w.cell? ⟨B,1,none⟩=some sv:=by simp[World.cell?,h]
set_option maxHeartbeats 4000000 in
theorem zji (n l Bs n₀:Nat) (hn:1≤n) (u:Int) (b:List Int) (sv:Value) (hl:b.length≤16000000) (hw:WfB b) (hr:z14 u b=true) (hu:0≤u∧u≤7) (k:Nat) (hk:8*(b.length:Int) -u=k) (J Jx:List Nat→World→Prop)
  (hY:∀ pre x W,J pre W→pre.length<k→YieldAt Fence.wide (n -1) Tryz.prog l #[.int .i64 (x:Nat)] W fun e W'=>
    (e= .returned (.bool true)∧J (pre++ [x]) W'∧KpB n₀ Bs W W')∨(e= .returned (.bool false)∧Jx (pre++ [x]) W'))
  (W:World) (hn0:n₀≤W.heap.size) (hB:Bs<W.heap.size) (hBs:W.heap[Bs]? =some (.cells #[.int .i64 u,sv] 198 (0,0))) (hsv:ByR n₀ W sv b) (hJ:AbidesFrom W.heap.size J) (h0:J [] W):
  CallsIn Fence.wide n Tryz.prog 194 #[.func (.yield l) #[] #[],.pointer (some ⟨Bs,0,none⟩)] W fun e W'=>(∃ v,e= .returned v)∧
   ((∃ ys,ys=z2i b k∧J ys W')∨(∃ pre,pre<+:z2i b k∧Jx pre W')):=by
 refine callsIn_of_wp Tryz.func194 rfl trivial ?_ rfl
 simp only[Tryz.ntmps194,List.size_toArray,List.length_cons,List.length_nil,Nat.reduceAdd,Nat.reduceSub,Array.replicate_succ,Array.replicate_zero,List.push_toArray,List.append_toArray,List.nil_append,List.cons_append]
 obtain⟨c0,c1⟩:=z3R hBs
 have hlc:=zbl (u:=u) hsv hn0 hl hw hr hu
 rw[hk] at hlc
 gi_wp2_with (refine⟨trivial,?_⟩; refine(callsIn_wide.2 hlc).mono ?_; rintro e w1 ⟨rfl,hg1⟩)
 have hb1:KpB n₀ Bs W w1:= .grown hg1 hn0 hB
 have h1:=hJ _ _ _ none h0 hg1 (by simp)
 gi_loopw [6] (fun i wr=>∃ q:Nat,q≤k∧i= .int .i64 q∧J (z2i b q) wr∧KpB n₀ Bs W wr) (fun i _=>k -(intOf i).toNat)
 case atStart=>exact⟨0,Nat.zero_le _,rfl,h1,hb1⟩
 case round=>
  obtain⟨q,hq,rfl,hJs,hnx⟩:=hrel
  by_cases hlt:q<k
  ·obtain⟨d0,d1⟩:=z3R (hnx.2.trans hBs)
   have hsz:=hnx.1.size
   have hbc:=zbm (u:=u) q (hsv.below hnx.1) (by omega) hl hw (by omega:q/8<b.length)
   have hsc:=zfQ b q
   have hln:=zhh b q
   cases hbit:z33 b q with
   | true=>
     rw[hbit] at hbc
     rw[if_pos hbit] at hsc
     gi_wp2_with (refine⟨trivial,?_⟩; refine(callsIn_wide.2 hbc).mono ?_; rintro e w2 ⟨rfl,hg2⟩)
     have hJ2:=hJ _ _ _ none hJs hg2 (by simp)
     have hb2:KpB n₀ Bs wr w2:= .grown hg2 (by omega) (by omega)
     obtain⟨fn,tmps,assign,body,hy,hR⟩:=hY _ q w2 hJ2 (by omega)
     gi_wp2
     rw[hy,Oper.uponIn_round]
     refine⟨fun _=>hn,hR.mono ?_⟩
     rintro e w3 (⟨rfl,hJ3,hk3⟩ |⟨rfl,hJx3⟩)
     ·gi_wp2
      go_roundw
      case rel=>exact⟨q+1,by omega,by simp,by rw[hsc]; exact hJ3,hnx.trans (hb2.trans hk3)⟩
      case measure=>simp[intOf]; omega
     ·gi_wp2
      refine bodyPost_ret (results_none rfl _ _ _) rfl ?_
      exact⟨⟨_,rfl⟩,.inr ⟨_,by rw[←hsc]; exact zhi b hlt,hJx3⟩⟩
   | false=>
     rw[hbit] at hbc
     rw[if_neg (by rw[hbit]; simp)] at hsc
     gi_wp2_with (refine⟨trivial,?_⟩; refine(callsIn_wide.2 hbc).mono ?_; rintro e w2 ⟨rfl,hg2⟩)
     have hJ2:=hJ _ _ _ none hJs hg2 (by simp)
     have hb2:KpB n₀ Bs wr w2:= .grown hg2 (by omega) (by omega)
     refine⟨fun _ h=>(by cases h),?_⟩
     gi_wp2
     go_roundw
     case rel=>exact⟨q+1,by omega,by simp,by rw[hsc]; exact hJ2,hnx.trans hb2⟩
     case measure=>simp[intOf]; omega
  ·obtain rfl:q=k:=by omega
   gi_wp2
   go_end0
   exact⟨⟨_,rfl⟩,.inl ⟨_,rfl,hJs⟩⟩
end Go.Proofs.YtaagjnlkinojcaaGreat

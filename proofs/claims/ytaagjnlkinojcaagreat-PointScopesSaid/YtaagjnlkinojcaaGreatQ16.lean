/-
  Chapter 5: the flags of a right string, both sides. The conditions: rows of bytes that a machine can hold.
-/
import Derived.RangeFuncBox
import Derived.RangeFuncLeaves
import Derived.RangeFuncNested
import Derived.Shelf.Abstract
import Derived.WalkKit
import Derived.OwnWalkIn
import Derived.TacticsInMore
import Derived.LoopNIn
import Derived.LoopIn
import Derived.Maps.AppendAt
import Derived.Test.YtaagjnlkinojcaaGreatQ13
import Derived.Test.YtaagjnlkinojcaaGreatO7
namespace Go.Proofs.YtaagjnlkinojcaaGreat
set_option linter.unusedSimpArgs false
set_option linter.unusedVariables false
open Go Go.Sx Go.RowKit Go.Shelf
attribute [local go_sem] Oper.semAt_some
set_option maxRecDepth 100000
theorem z6p {P:Program} {f:FuncId} {args:List Av} {res:Av} (h:Ct P f args [] res [] []) (n₀:Nat) (w:World) (vs:List Value) (hn:n₀≤w.heap.size) (hl:vs.length=args.length)
  (ha:∀(i:Nat) (x:Av) (v:Value),args[i]? =some x→vs[i]? =some v→AvR (fun _=>none) (fun b=>b<n₀) w x v) (hgd:GdK w (fun _=>False)):
  Calls P f vs.toArray w fun e w'=>∃ v β' F',e= .returned v∧AvR β' F' w' res v∧w.grownBy w' none:=by
 refine(h.2.2 w (fun _=>none) (fun b=>b<n₀) vs hl ha (fun i b hb=>by simp at hb) (fun i j g hi=>by simp at hi) (fun j g hj=>by simp at hj) (fun _ _=>rfl) (fun b hb=>by omega) (fun p hp=>⟨fun hm=>by obtain⟨i,hi,_⟩:=hm; simp at hi,(hgd p hp).2⟩)).mono ?_
 rintro e w' ⟨v,β',F',h1,h2,_,_,ho⟩
 refine⟨v,β',F',h1,h2,?_⟩
 exact⟨ho.keep.os,ho.keep.tape,ho.keep.output,ho.keep.size,fun k hk _=>ho.keep.block k hk (fun hm=>by obtain⟨i,hi,_⟩:=hm; simp at hi)⟩
abbrev ByR (n₀:Nat) (w:World) (sv:Value) (l:List Int):Prop:=LfR (fun b=>b<n₀) w (.ints .u8 l) sv
theorem ByR.below {n₀:Nat} {w w':World} {sv:Value} {l:List Int} (h:ByR n₀ w sv l) (hb:Below n₀ w w'):ByR n₀ w' sv l:=h.mono fun b hb'=>⟨hb',hb.block b hb'⟩
theorem ziS {n₀:Nat} {w:World} {sv:Value} {u:Int} {l:List Int} (h:ByR n₀ w sv l):AvR (fun _=>none) (fun b=>b<n₀) w (z3t u l) (.agg #[.int .i64 u,sv]):=
 .agg _ _ rfl fun i x v hx hv=>by
   match i,hx,hv with
   | 0,hx,hv=>simp at hx hv; subst hx; subst hv; exact .lf (.v _ rfl)
   | 1,hx,hv=>simp at hx hv; subst hx; subst hv; exact .lf h
theorem zcT (w:World):GdK w (fun _=>False):=fun p hp=>by cases hp
theorem zdI {n₀:Nat} {w:World} {sv:Value} {u:Int} {l:List Int} (h:ByR n₀ w sv l) (hn:n₀≤w.heap.size) (hl:l.length≤16000000) (hw:WfB l) (hr:z0P u l=true):
  Calls Tryz.prog 160 #[.agg #[.int .i64 u,sv]] w fun e w'=>e= .returned (.bool true)∧w.grownBy w' none:=by
 have hc:=z4u u l hl hw
 rw[hr] at hc
 refine(z6p hc n₀ w [.agg #[.int .i64 u,sv]] hn rfl (fun i x v hx hv=>?_) (zcT w)).mono ?_
 ·match i,hx,hv with
  | 0,hx,hv=>simp at hx hv; subst hx; subst hv; exact ziS h
 ·rintro e w' ⟨v,β',F',rfl,h2,h3⟩
  have:=h2.val
  subst this
  exact⟨rfl,h3⟩
theorem zbh {n₀:Nat} {w:World} {sv:Value} {u:Int} {l:List Int} (h:ByR n₀ w sv l) (hn:n₀≤w.heap.size) (hl:l.length≤16000000) (hw:WfB l) (hr:z0P u l=true) (hu:0≤u∧u≤7):
  Calls Tryz.prog 162 #[.agg #[.int .i64 u,sv]] w fun e w'=>e= .returned (.int .i64 (8*(l.length:Int) -u))∧w.grownBy w' none:=by
 have hc:=z8K u l hl hw hr hu
 refine(z6p hc n₀ w [.agg #[.int .i64 u,sv]] hn rfl (fun i x v hx hv=>?_) (zcT w)).mono ?_
 ·match i,hx,hv with
  | 0,hx,hv=>simp at hx hv; subst hx; subst hv; exact ziS h
 ·rintro e w' ⟨v,β',F',rfl,h2,h3⟩
  have:=h2.val
  subst this
  exact⟨rfl,h3⟩
theorem zbi {n₀:Nat} {w:World} {sv:Value} {u:Int} {l:List Int} (i:Nat) (h:ByR n₀ w sv l) (hn:n₀≤w.heap.size) (hl:l.length≤16000000) (hw:WfB l) (hi:i/8<l.length):
  Calls Tryz.prog 163 #[.agg #[.int .i64 u,sv],.int .i64 (i:Int)] w fun e w'=>e= .returned (.bool (z2E l i))∧w.grownBy w' none:=by
 have hc:=zaR u l i hl hw hi
 refine(z6p hc n₀ w [.agg #[.int .i64 u,sv],.int .i64 (i:Int)] hn rfl (fun i x v hx hv=>?_) (zcT w)).mono ?_
 ·match i,hx,hv with
  | 0,hx,hv=>simp at hx hv; subst hx; subst hv; exact ziS h
  | 1,hx,hv=>simp at hx hv; subst hx; subst hv; exact .c (.lf (.v _ rfl))
 ·rintro e w' ⟨v,β',F',rfl,h2,h3⟩
  have:=h2.val
  subst this
  exact⟨rfl,h3⟩
def z28 (l:List Int) (k:Nat):List Nat:=(List.range k).filter (z2E l)
theorem za0 (l:List Int) (k:Nat):z28 l (k+1)=if z2E l k=true then z28 l k++ [k] else z28 l k:=by
 unfold z28
 rw[List.range_succ,List.filter_append]
 split
 ·rename_i h; simp[h]
 ·rename_i h; simp[h]
theorem zbj (l:List Int) (k:Nat):(z28 l k).length≤k:=by
 have:=List.length_filter_le (z2E l) (List.range k)
 simpa[z28] using this
theorem zgT (l:List Int) {q k:Nat} (h:q<k):z28 l (q+1)<+:z28 l k:=by
 unfold z28
 have:List.range k=List.range (q+1)++(List.range (k -(q+1))).map (q+1+ ·):=by
  rw[←List.range_add]
  congr 1
  omega
 rw[this,List.filter_append]
 exact List.prefix_append _ _
set_option maxHeartbeats 1000000 in
theorem ze7 (n:Nat) (u:Int) (sv:Value) (w:World):
  CallsIn Fence.wide n Tryz.prog 164 #[.agg #[.int .i64 u,sv]] w fun e w'=>e= .returned (.func (.func 194) #[] #[.pointer (some ⟨w.heap.size,0,none⟩)])∧w'=w.alloc (.cells #[.int .i64 u,sv] 198):=by
 refine callsIn_of_wp Tryz.func164 rfl trivial ?_ rfl
 simp only[Tryz.ntmps164,List.size_toArray,List.length_cons,List.length_nil,Nat.reduceAdd,Nat.reduceSub,Array.replicate_succ,Array.replicate_zero,List.push_toArray,List.append_toArray,List.nil_append,List.cons_append]
 gi_wp2
 go_ret
 exact⟨rfl,rfl⟩
def KpB (n₀ Bs:Nat) (A B:World):Prop:=Below n₀ A B∧B.heap[Bs]? =A.heap[Bs]?
theorem KpB.trans {n₀ Bs:Nat} {A B C:World} (h:KpB n₀ Bs A B) (k:KpB n₀ Bs B C):KpB n₀ Bs A C:=⟨h.1.trans k.1,k.2.trans h.2⟩
theorem KpB.grown {n₀ Bs:Nat} {A B:World} (hg:A.grownBy B none) (hn:n₀≤A.heap.size) (hB:Bs<A.heap.size):KpB n₀ Bs A B:=⟨(Below.refl n₀ A).grown hg hn (by simp),hg.block Bs hB (by simp)⟩
theorem z3M {w:World} {B:Nat} {u:Int} {sv:Value} (h:w.heap[B]? =some (.cells #[.int .i64 u,sv] 198 (0,0))):w.cell? ⟨B,0,none⟩=some (.int .i64 u)∧w.cell? ⟨B,1,none⟩=some sv:=by simp[World.cell?,h]
set_option maxHeartbeats 4000000 in
theorem ziT (n l Bs n₀:Nat) (hn:1≤n) (u:Int) (b:List Int) (sv:Value) (hl:b.length≤16000000) (hw:WfB b) (hr:z0P u b=true) (hu:0≤u∧u≤7) (k:Nat) (hk:8*(b.length:Int) -u=k) (J Jx:List Nat→World→Prop)
  (hY:∀ pre x W,J pre W→pre.length<k→YieldAt Fence.wide (n -1) Tryz.prog l #[.int .i64 (x:Nat)] W fun e W'=>
    (e= .returned (.bool true)∧J (pre++ [x]) W'∧KpB n₀ Bs W W')∨(e= .returned (.bool false)∧Jx (pre++ [x]) W'))
  (W:World) (hn0:n₀≤W.heap.size) (hB:Bs<W.heap.size) (hBs:W.heap[Bs]? =some (.cells #[.int .i64 u,sv] 198 (0,0))) (hsv:ByR n₀ W sv b) (hJ:AbidesFrom W.heap.size J) (h0:J [] W):
  CallsIn Fence.wide n Tryz.prog 194 #[.func (.yield l) #[] #[],.pointer (some ⟨Bs,0,none⟩)] W fun e W'=>(∃ v,e= .returned v)∧
   ((∃ ys,ys=z28 b k∧J ys W')∨(∃ pre,pre<+:z28 b k∧Jx pre W')):=by
 refine callsIn_of_wp Tryz.func194 rfl trivial ?_ rfl
 simp only[Tryz.ntmps194,List.size_toArray,List.length_cons,List.length_nil,Nat.reduceAdd,Nat.reduceSub,Array.replicate_succ,Array.replicate_zero,List.push_toArray,List.append_toArray,List.nil_append,List.cons_append]
 obtain⟨c0,c1⟩:=z3M hBs
 have hlc:=zbh (u:=u) hsv hn0 hl hw hr hu
 rw[hk] at hlc
 gi_wp2_with (refine⟨trivial,?_⟩; refine(callsIn_wide.2 hlc).mono ?_; rintro e w1 ⟨rfl,hg1⟩)
 have hb1:KpB n₀ Bs W w1:= .grown hg1 hn0 hB
 have h1:=hJ _ _ _ none h0 hg1 (by simp)
 gi_loopw [6] (fun i wr=>∃ q:Nat,q≤k∧i= .int .i64 q∧J (z28 b q) wr∧KpB n₀ Bs W wr) (fun i _=>k -(intOf i).toNat)
 case atStart=>exact⟨0,Nat.zero_le _,rfl,h1,hb1⟩
 case round=>
  obtain⟨q,hq,rfl,hJs,hnx⟩:=hrel
  by_cases hlt:q<k
  ·obtain⟨d0,d1⟩:=z3M (hnx.2.trans hBs)
   have hsz:=hnx.1.size
   have hbc:=zbi (u:=u) q (hsv.below hnx.1) (by omega) hl hw (by omega:q/8<b.length)
   have hsc:=za0 b q
   have hln:=zbj b q
   cases hbit:z2E b q with
   | true=>
     rw[hbit] at hbc
     rw[if_pos hbit] at hsc
     gi_wp2_with (refine⟨trivial,?_⟩; refine(callsIn_wide.2 hbc).mono ?_; rintro e w2 ⟨rfl,hg2⟩)
     have hJ2:=hJ _ _ _ none hJs hg2 (by simp)
     have hb2:KpB n₀ Bs wr w2:= .grown hg2 (by omega) (by omega)
     obtain⟨fn,tmps,assign,body,hy,hR⟩:=hY _ q w2 hJ2 (by omega)
     gi_wp2
     rw[hy,Oper.uponIn_round]
     refine⟨fun _=>hn,hR.mono ?_⟩
     rintro e w3 (⟨rfl,hJ3,hk3⟩ |⟨rfl,hJx3⟩)
     ·gi_wp2
      go_roundw
      case rel=>exact⟨q+1,by omega,by simp,by rw[hsc]; exact hJ3,hnx.trans (hb2.trans hk3)⟩
      case measure=>simp[intOf]; omega
     ·gi_wp2
      refine bodyPost_ret (results_none rfl _ _ _) rfl ?_
      exact⟨⟨_,rfl⟩,.inr ⟨_,by rw[←hsc]; exact zgT b hlt,hJx3⟩⟩
   | false=>
     rw[hbit] at hbc
     rw[if_neg (by rw[hbit]; simp)] at hsc
     gi_wp2_with (refine⟨trivial,?_⟩; refine(callsIn_wide.2 hbc).mono ?_; rintro e w2 ⟨rfl,hg2⟩)
     have hJ2:=hJ _ _ _ none hJs hg2 (by simp)
     have hb2:KpB n₀ Bs wr w2:= .grown hg2 (by omega) (by omega)
     refine⟨fun _ h=>(by cases h),?_⟩
     gi_wp2
     go_roundw
     case rel=>exact⟨q+1,by omega,by simp,by rw[hsc]; exact hJ2,hnx.trans hb2⟩
     case measure=>simp[intOf]; omega
  ·obtain rfl:q=k:=by omega
   gi_wp2
   go_end0
   exact⟨⟨_,rfl⟩,.inl ⟨_,rfl,hJs⟩⟩
attribute [local go_sem] Oper.semAt_some
set_option maxRecDepth 100000
def enN (l:List Nat):List Value:=l.map fun(i:Nat)=>Value.int .i64 (i:Int)
theorem zpA:(Tryz.prog.info? 3).map (fun i=>(i.zero,i.size,i.bytes))=some (some (.int .i64 0),1,8):=by kernel_rfl
theorem ze8 (B:Nat) (u:Int) (sv:Value):Own (fun(_:List Nat) W=>W.heap[B]? =some (.cells #[.int .i64 u,sv] 198 (0,0))):=by
 rintro s X Y row h hg hrow
 refine(hg.block B (Array.getElem?_eq_some_iff.1 h).1 fun e=>?_).trans h
 obtain⟨o,ho,hc⟩:=hrow B e.symm
 rw[h] at ho
 cases ho
 cases hc
theorem zkK {W w1:World} {n₀ B D:Nat} {u:Int} {sv v:Value} {tmp:Obj} {k m:Nat} {xs:List Value} (h:W.heap[B]? =some (.cells #[.int .i64 u,sv] 198 (0,0))) (hD:B≠D) (hrow:W.ownsRow n₀ 3 1 v k xs) (hg:(W.alloc tmp).grownBy w1 v.ownBlock) (a:Addr) (c:Nat):
  (w1.setCell ⟨D,0,none⟩ (.slice (some a) m c)).heap[B]? =W.heap[B]?:=by
 have hlt:=(Array.getElem?_eq_some_iff.1 h).1
 have h1:(W.alloc tmp).heap[B]? =W.heap[B]?:=RowKit.Below.heap_alloc W _ _ hlt
 have hne:some B≠v.ownBlock:=by
  rcases hrow.2 with ⟨rfl,_⟩ |⟨g,cap,cur,rfl,_,hgb,_⟩
  ·simp[Value.ownBlock]
  ·intro e'
   obtain rfl:B=g:=by simpa[Value.ownBlock] using e'
   have:=h.symm.trans hgb
   simp at this
 exact(RowKit.Below.heap_setCell _ _ _ _ hD).trans ((hg.block B (by simp; omega) hne).trans h1)
theorem za1 (n:Nat) (hn:1≤n) (u:Int) (b:List Int) (sv:Value) (hl:b.length≤16000000) (hw:WfB b) (hr:z0P u b=true) (hu:0≤u∧u≤7) (k:Nat) (hk:8*(b.length:Int) -u=k) (Bs n₀:Nat) (w:World) (hn0:n₀≤w.heap.size) (hB:Bs<w.heap.size)
  (hBs:w.heap[Bs]? =some (.cells #[.int .i64 u,sv] 198 (0,0))) (hsv:ByR n₀ w sv b):
  SeqStopsK Fence.wide n Tryz.prog 194 #[.pointer (some ⟨Bs,0,none⟩)] (fun x:Nat=> #[Value.int .i64 (x:Int)]) (KpB n₀ Bs) (fun ys=>ys=z28 b k) (fun pre=>pre<+:z28 b k) k w:=fun l J Jx W hW hJ _ hY h0=>
 ziT n l Bs n₀ hn u b sv hl hw hr hu k hk J Jx hY W (Nat.le_trans hn0 hW.size) (Nat.lt_of_lt_of_le hB hW.size) ((hW.block Bs hB).trans hBs) (hsv.below (hW.mono hn0)) hJ h0
set_option maxHeartbeats 4000000 in
theorem ziU (u:Int) (b:List Int) (sv:Value) (hl:b.length≤16000000) (hw:WfB b) (hr:z0P u b=true) (hu:0≤u∧u≤7) (k:Nat) (hk:8*(b.length:Int) -u=k) (h32:k≤32) (hlast:0<k→z2E b (k -1)=true) (w:World) (hsv:ByR w.heap.size w sv b):
  CallsIn Fence.wide 3 Tryz.prog 118 #[.agg #[.int .i64 u,sv]] w fun e W'=>∃ v,e= .returned (.tuple #[v,.int .i64 0])∧W'.ownsRow w.heap.size 3 1 v (z28 b k).length (enN (z28 b k))∧Below w.heap.size w W':=by
 obtain⟨i0,hi,hz0,hz1,hz2⟩:=info_parts zpA
 refine callsIn_of_wp_marks Tryz.func118 rfl trivial ?_ rfl
 simp only[Tryz.ntmps118,List.size_toArray,List.length_cons,List.length_nil,Nat.reduceAdd,Nat.reduceSub,Array.replicate_succ,Array.replicate_zero,List.push_toArray,List.append_toArray,List.nil_append,List.cons_append]
 obtain⟨w1,hw1⟩:∃ w1,w.alloc (.cells #[.int .i64 u,sv] 198)=w1:=⟨_,rfl⟩
 have z1:w1.heap.size=w.heap.size+1:=by rw[←hw1]; simp
 have b1:w1.heap[w.heap.size]? =some (.cells #[.int .i64 u,sv] 198 (0,0)):=by rw[←hw1]; exact World.alloc_heap_new w _
 have B1:Below w.heap.size w w1:=by rw[←hw1]; exact(Below.refl _ w).alloc (Nat.le_refl _) _
 have s1:=hsv.below B1
 obtain⟨c11,c12⟩:=z3M b1
 gi_wp2
 refine⟨trivial,(callsIn_wide.2 (zdI (u:=u) s1 (by omega) hl hw hr)).mono ?_⟩
 rintro e w2 ⟨rfl,g2⟩
 have z2:=g2.size
 have b2:=(g2.block w.heap.size (by omega) (by simp)).trans b1
 have B2:=B1.grown g2 (by omega) (by simp)
 have s2:=hsv.below B2
 obtain⟨c21,c22⟩:=z3M b2
 have hlc:=zbh (u:=u) s2 (by omega) hl hw hr hu
 rw[hk] at hlc
 gi_wp2
 refine⟨trivial,(callsIn_wide.2 hlc).mono ?_⟩
 rintro e w3 ⟨rfl,g3⟩
 have z3:=g3.size
 have b3:=(g3.block w.heap.size (by omega) (by simp)).trans b2
 have B3:=B2.grown g3 (by omega) (by simp)
 have s3:=hsv.below B3
 obtain⟨c31,c32⟩:=z3M b3
 by_cases h0:k=0
 ·subst h0
  gi_wp2
  refine⟨trivial,?_⟩
  obtain⟨w5,hw5⟩:∃ w5,w3.alloc (.cells #[.slice none 0 0] 22)=w5:=⟨_,rfl⟩
  have z5:w5.heap.size=w3.heap.size+1:=by rw[←hw5]; simp
  have bO:Boxed w5 w3.heap.size 22 (.slice none 0 0):=by rw[←hw5]; exact Boxed.new w3 22 _
  have b5:w5.heap[w.heap.size]? =some (.cells #[.int .i64 u,sv] 198 (0,0)):=by rw[←hw5]; exact(RowKit.Below.heap_alloc w3 _ _ (by omega)).trans b3
  have B5:Below w.heap.size w w5:=by rw[←hw5]; exact B3.alloc (by omega) _
  have s5:=hsv.below B5
  obtain⟨c51,c52⟩:=z3M b5
  gi_wp2
  refine⟨trivial,(ze7 2 u sv w5).mono ?_⟩
  rintro e w6 ⟨rfl,hw6⟩
  have z6:w6.heap.size=w5.heap.size+1:=by rw[hw6]; simp
  have b6:w6.heap[w5.heap.size]? =some (.cells #[.int .i64 u,sv] 198 (0,0)):=by rw[hw6]; exact World.alloc_heap_new w5 _
  have B6:Below w.heap.size w w6:=by rw[hw6]; exact B5.alloc (by omega) _
  have bP:Boxed w6 w3.heap.size 22 (.slice none 0 0):=by rw[hw6]; exact bO.alloc _
  have s6:=s5.below (n₀:=w.heap.size) (w':=w6) (by rw[hw6]; exact(Below.refl _ w5).alloc (by omega) _)
  clear hw6
  gi_wp2
  refine wpIn_rangeFunc_ownG rfl (by decide) (gf:=194) (lb:= #[.pointer (some ⟨w5.heap.size,0,none⟩)]) (by simp[Act.eval,z5]) trivial (enters_of Tryz.func194 (by kernel_rfl) rfl)
   (za1 2 (by decide) u b sv hl hw hr hu 0 hk w5.heap.size w.heap.size w6 (by omega) (by omega) b6 s6) (fun h1 h2=>h1.trans h2)
   (fun W l o o' h1 h2 h3 h4=>⟨belowK_b (w:=w6) (by omega) W l o o' h1 h2 h3 h4,World.putObj_heap_other (by omega)⟩) (Below.refl _ _) (fun _=>rfl)
   (fun pre W=>(∃ v,Boxed W w3.heap.size 22 v∧W.ownsRow w.heap.size 3 1 v pre.length (enN pre)∧True)∧(Below w.heap.size w W∧W.heap[w5.heap.size]? =some (.cells #[.int .i64 u,sv] 198 (0,0))))
   (fun _ _ _=>False)
   (OwnFrom.and (Own.from (holdsRow_own w.heap.size w3.heap.size 22 3 1 (fun pre=>pre.length) (fun pre=>enN pre) (fun _ _=>True)) _) (OwnFrom.and (ownFrom_below (Nat.le_refl _) (by omega)) (Own.from (ze8 _ u sv) _)))
   (fun _ _ _ _ _ hs _ _=>hs)
   ⟨⟨_,bP,World.ownsRow_nil _ _ _ _,trivial⟩,B6,b6⟩ ?aone ?assign ?body ?done ?stop
  case assign=>
   intro l x W K hK
   gi_wp2
   exact hK
  case body=>
   rintro l pre x W ⟨⟨v,hv,hrow,_⟩,hB,hbx⟩ hlt
   have hc:=hv.cell
   exact absurd hlt (by omega)
  case done=>
   rintro D ys W hD rfl ⟨⟨v,hv,hrow,_⟩,hB,hbx⟩ hK
   have hc:=hv.cell
   gi_wp2
   refine⟨by simp,.inl ⟨_,_,rfl,run_takeDeferred hK,?_⟩⟩
   exact⟨_,results_tmp2 rfl _ _ _,v,rfl,ownsRow_putObj hrow _ hK rfl,hB.trans (belowK_b (w:=w) (Nat.le_refl _) W D _ _ (by omega) hK rfl rfl)⟩
  case stop=>
   rintro D c pre W _ _ h _
   exact h.elim
 ·have hbc:=zbi (u:=u) (k -1) s3 (by omega) hl hw (by omega:(k -1)/8<b.length)
  rw[hlast (by omega),show((k -1:Nat):Int)=(k:Int) -1 by omega] at hbc
  gi_wp2
  refine⟨trivial,(callsIn_wide.2 hbc).mono ?_⟩
  rintro e w4 ⟨rfl,g4⟩
  have z4:=g4.size
  have b4:=(g4.block w.heap.size (by omega) (by simp)).trans b3
  have B4:=B3.grown g4 (by omega) (by simp)
  obtain⟨w5,hw5⟩:∃ w5,w4.alloc (.cells #[.slice none 0 0] 22)=w5:=⟨_,rfl⟩
  have z5:w5.heap.size=w4.heap.size+1:=by rw[←hw5]; simp
  have bO:Boxed w5 w4.heap.size 22 (.slice none 0 0):=by rw[←hw5]; exact Boxed.new w4 22 _
  have b5:w5.heap[w.heap.size]? =some (.cells #[.int .i64 u,sv] 198 (0,0)):=by rw[←hw5]; exact(RowKit.Below.heap_alloc w4 _ _ (by omega)).trans b4
  have B5:Below w.heap.size w w5:=by rw[←hw5]; exact B4.alloc (by omega) _
  have s5:=hsv.below B5
  obtain⟨c51,c52⟩:=z3M b5
  gi_wp2
  refine⟨trivial,(ze7 2 u sv w5).mono ?_⟩
  rintro e w6 ⟨rfl,hw6⟩
  have z6:w6.heap.size=w5.heap.size+1:=by rw[hw6]; simp
  have b6:w6.heap[w5.heap.size]? =some (.cells #[.int .i64 u,sv] 198 (0,0)):=by rw[hw6]; exact World.alloc_heap_new w5 _
  have B6:Below w.heap.size w w6:=by rw[hw6]; exact B5.alloc (by omega) _
  have bP:Boxed w6 w4.heap.size 22 (.slice none 0 0):=by rw[hw6]; exact bO.alloc _
  have s6:=s5.below (n₀:=w.heap.size) (w':=w6) (by rw[hw6]; exact(Below.refl _ w5).alloc (by omega) _)
  clear hw6
  gi_wp2
  refine wpIn_rangeFunc_ownG rfl (by decide) (gf:=194) (lb:= #[.pointer (some ⟨w5.heap.size,0,none⟩)]) (by simp[Act.eval,z5]) trivial (enters_of Tryz.func194 (by kernel_rfl) rfl)
   (za1 2 (by decide) u b sv hl hw hr hu k hk w5.heap.size w.heap.size w6 (by omega) (by omega) b6 s6) (fun h1 h2=>h1.trans h2)
   (fun W l o o' h1 h2 h3 h4=>⟨belowK_b (w:=w6) (by omega) W l o o' h1 h2 h3 h4,World.putObj_heap_other (by omega)⟩) (Below.refl _ _) (fun _=>rfl)
   (fun pre W=>(∃ v,Boxed W w4.heap.size 22 v∧W.ownsRow w.heap.size 3 1 v pre.length (enN pre)∧True)∧(Below w.heap.size w W∧W.heap[w5.heap.size]? =some (.cells #[.int .i64 u,sv] 198 (0,0))))
   (fun _ _ _=>False)
   (OwnFrom.and (Own.from (holdsRow_own w.heap.size w4.heap.size 22 3 1 (fun pre=>pre.length) (fun pre=>enN pre) (fun _ _=>True)) _) (OwnFrom.and (ownFrom_below (Nat.le_refl _) (by omega)) (Own.from (ze8 _ u sv) _)))
   (fun _ _ _ _ _ hs _ _=>hs)
   ⟨⟨_,bP,World.ownsRow_nil _ _ _ _,trivial⟩,B6,b6⟩ ?aone2 ?assign2 ?body2 ?done2 ?stop2
  case assign2=>
   intro l x W K hK
   gi_wp2
   exact hK
  case body2=>
   rintro l pre x W ⟨⟨v,hv,hrow,_⟩,hB,hbx⟩ hlt
   have hc:=hv.cell
   have hle:pre.length<33:=by omega
   gi_wp2_with (gi_at_builtin; refine wpListIn_append_own _ rfl _ _ 22 rfl w.heap.size 3 i0 (.int .i64 0) 1 8 Tryz.underlying22 hi hz0 hz1 hz2 rfl (by decide) _ _ _ rfl (hrow.alloc _) ⟨W.heap.size,0,none⟩ 1 1 [.int .i64 (x:Int)] rfl rfl (cell_one_new _ _ _) (by simp[Value.oneCell']) (by simp only[maxLen]; omega) (by omega) (by have:=hB.size; simp; omega) ?_; intro v' w1 hown' hgrow _; obtain⟨g',cap',rfl⟩:=ownsRow_succ hown'; obtain⟨hv1,hv2,hr2,hk2,hb2⟩:=hv.appended (by decide) hrow hB.size (by omega) hown' hgrow; have hc1:=hv1.cell; have hf1:=hv1.frozen)
   have hbx2:=zkK (D:=w4.heap.size) (m:=pre.length+1) hbx (by omega) hrow hgrow ⟨g',0,none⟩ cap'
   exact⟨hk2.from _,⟨hb2,hbx2⟩,⟨_,hv2,by simpa[enN] using hr2,trivial⟩,hB.trans hb2,hbx2.trans hbx⟩
  case done2=>
   rintro D ys W hD rfl ⟨⟨v,hv,hrow,_⟩,hB,hbx⟩ hK
   have hc:=hv.cell
   gi_wp2
   refine⟨by simp,.inl ⟨_,_,rfl,run_takeDeferred hK,?_⟩⟩
   exact⟨_,results_tmp2 rfl _ _ _,v,rfl,ownsRow_putObj hrow _ hK rfl,hB.trans (belowK_b (w:=w) (Nat.le_refl _) W D _ _ (by omega) hK rfl rfl)⟩
  case stop2=>
   rintro D c pre W _ _ h _
   exact h.elim
end Go.Proofs.YtaagjnlkinojcaaGreat
namespace Go.Proofs.YtaagjnlkinojcaaGreat
set_option linter.unusedSimpArgs false
set_option linter.unusedVariables false
open Go.Sx
set_option maxRecDepth 10000
theorem zfy (u:Int) (b:List Int) (hl:b.length≤16000000) (hw:WfB b) (hr:z0P u b=true) (hu:0≤u∧u≤7) (k:Nat) (hk:8*(b.length:Int) -u=k) (h:32<k∨(0<k∧z2E b (k -1)=false)):
  Ct Tryz.prog 118 [z3t u b] [] (.tup [I64 [],lv (.int .i64 6)]) [] []:=by
 have h1:=z4u u b hl hw
 rw[hr] at h1
 have h2:=z8K u b hl hw hr hu
 rw[hk] at h2
 by_cases h32:32<k
 ·by_cases h0:k=0
  ·omega
  have h3:=zaR u b (k -1) hl hw (by omega)
  rw[show((k -1:Nat):Int)=(k:Int) -1 by omega] at h3
  generalize z2E b (k -1)=B at*
  refine z00 Tryz.func118 rfl rfl rfl rfl rfl (fun E hn hb=>?_)
  repeat refine nx ?_
  exact rtU []
 ·have h:=h.resolve_left h32
  have h3:=zaR u b (k -1) hl hw (by omega)
  rw[show((k -1:Nat):Int)=(k:Int) -1 by omega,h.2] at h3
  have hpos:=h.1
  refine z00 Tryz.func118 rfl rfl rfl rfl rfl (fun E hn hb=>?_)
  repeat refine nx ?_
  exact rtU []
theorem zfz (u:Int) (b:List Int) (hl:b.length≤16000000) (hw:WfB b) (hr:z0P u b=true) (hu:0≤u∧u≤7) (k:Nat) (hk:8*(b.length:Int) -u=k) (h32:k≤32) (hlast:0<k→z2E b (k -1)=true):
  Ct Tryz.prog 118 [z3t u b] [] (.tup [I64 ((z28 b k).map fun(i:Nat)=>(i:Int)),lv (.int .i64 0)]) [] []:=by
 refine⟨rfl,⟨Tryz.f118,Tryz.func118,rfl,rfl⟩,fun w β F vs hl1 ha _ _ hown hnone hF hgd=>?_⟩
 obtain⟨v,rfl⟩:∃ v,vs= [v]:=by
  match vs,hl1 with
  | [v],_=>exact⟨v,rfl⟩
 have h0:=ha 0 _ v rfl rfl
 cases h0 with | agg _ cs h1 h2=>
 obtain⟨x,y,rfl⟩:∃ x y,cs= #[x,y]:=by
  obtain⟨l⟩:=cs
  match l,h1 with
  | [x,y],_=>exact⟨x,y,rfl⟩
 have hx:=h2 0 _ x rfl rfl
 have hy:=h2 1 _ y rfl rfl
 cases hx with | lf hx=>cases hx with | v _ hx=>
 cases hy with | lf hy=>
 have hsv:ByR w.heap.size w y b:=hy.mono fun g hg=>⟨hF g hg,rfl⟩
 refine(callsIn_wide.1 (ziU u b y hl hw hr hu k hk h32 hlast w hsv)).mono ?_
 rintro e w' ⟨v,rfl,hown',hB⟩
 have hval:AvR β (fun g=>F g∨(w.heap.size≤g∧g<w'.heap.size)) w' (.tup [I64 ((z28 b k).map fun(i:Nat)=>(i:Int)),lv (.int .i64 0)]) (.tuple #[v,.int .i64 0]):=by
  refine .tup _ _ rfl fun i x u hx hu=>?_
  match i,hx,hu with
  | 0,hx,hu=>
    simp at hx hu
    subst hx; subst hu
    refine .c (.lf ?_)
    rcases hown'.2 with ⟨rfl,h0⟩ |⟨g,cap,cur,rfl,hg1,hg2,hn1,hn2,hn3,hn4⟩
    ·have:z28 b k= []:=List.eq_nil_of_length_eq_zero h0
     rw[this]
     exact .ints _ _ _ _ _ rfl (Nat.le_refl _) (by simp[Go.maxLen]) (fun h=>absurd rfl h)
    ·refine .ints _ _ _ _ _ (by simp) hn1 hn2 fun hne=>⟨g,0,rfl,.inr ⟨hg1,(Array.getElem?_eq_some_iff.1 hg2).1⟩,fun j z hz=>?_⟩
     have hj:(enN (z28 b k))[j]? =some (.int .i64 z):=by
      rw[List.getElem?_map] at hz
      unfold enN
      rw[List.getElem?_map]
      cases ho:(z28 b k)[j]? with
      | none=>rw[ho] at hz; cases hz
      | some q=>rw[ho] at hz; simp at hz ⊢; exact hz
     rw[←hn4,List.getElem?_take] at hj
     split at hj
     ·rw[Nat.zero_add]
      simp only[Go.World.cell?,hg2]
      simpa using hj
     ·cases hj
  | 1,hx,hu=>
    simp at hx hu
    subst hx; subst hu
    exact .c (.lf (.v _ rfl))
 refine⟨_,β,_,rfl,hval,fun i b hb=>by simp at hb,fun i b hb=>by simp at hb,⟨fun _ _=>rfl,fun i j g hi=>by simp at hi,fun j g hj=>by simp at hj,fun i g hi=>by simp at hi,fun g hg=>?_,⟨hB.os,hB.tape,hB.output,hB.size,fun g hg _=>hB.block g hg,fun g n hc=>hc.same (hB.block g hc.lt)⟩⟩⟩
 rcases hg with h |⟨h1,h2⟩
 ·exact⟨by have:=hF g h; have:=hB.size; omega,.inl h⟩
 ·exact⟨h2,.inr h1⟩
theorem z83 {u:Int} {b:List Int} (hr:z0P u b=true):(0≤u∧u≤7)∧8*(b.length:Int) -u=((8*b.length -u.toNat:Nat):Int):=by
 unfold z0P at hr
 split at hr
 ·rename_i h
  subst h
  simp at hr
  subst hr
  simp
 ·rename_i h
  have:=List.length_pos_iff.2 h
  simp only[Bool.and_eq_true,decide_eq_true_eq] at hr
  omega
theorem ziV (u:Int) (b:List Int) (hl:b.length≤16000000) (hw:WfB b) (hr:z0P u b=true):Ct Tryz.prog 118 [z3t u b] [] (.tup [I64 (z4P u b).1,lv (.int .i64 (z4P u b).2)]) [] []:=by
 obtain⟨hu,hk⟩:=z83 hr
 unfold z4P
 dsimp only
 by_cases h:32<8*b.length -u.toNat∨(0<8*b.length -u.toNat∧z2E b (8*b.length -u.toNat -1)=false)
 ·rw[if_pos h]
  exact zfy u b hl hw hr hu _ hk h
 ·rw[if_neg h]
  refine zfz u b hl hw hr hu _ hk ?_ fun h0=>?_
  ·have:=fun h2=>h (.inl h2)
   omega
  ·cases hb:z2E b (8*b.length -u.toNat -1) with
   | true=>rfl
   | false=>exact absurd (.inr ⟨h0,hb⟩) h
end Go.Proofs.YtaagjnlkinojcaaGreat

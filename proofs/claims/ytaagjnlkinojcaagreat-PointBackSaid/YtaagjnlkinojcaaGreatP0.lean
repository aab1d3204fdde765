/-
  Chapter 16: what reads the chapter's parts, of the chapter's examples. The conditions: rows of at most a million bytes.
-/
import Derived.Test.YtaagjnlkinojcaaGreatQ14
import Derived.Test.YtaagjnlkinojcaaGreatO7
import Derived.Test.YtaagjnlkinojcaaGreatC7
import Derived.Test.YtaagjnlkinojcaaGreatE8
namespace Go.Proofs.YtaagjnlkinojcaaGreat
set_option linter.unusedSimpArgs false
set_option linter.unusedVariables false
open Go Go.Sx Go.RowKit Go.Shelf
attribute [local go_sem] Oper.semAt_some
set_option maxRecDepth 100000
def enN (l:List Nat):List Value:=l.map fun(i:Nat)=>Value.int .i64 (i:Int)
theorem zq5:(Tryz.prog.info? 3).map (fun i=>(i.zero,i.size,i.bytes))=some (some (.int .i64 0),1,8):=by kernel_rfl
theorem zeN (B:Nat) (u:Int) (sv:Value):Own (fun(_:List Nat) W=>W.heap[B]? =some (.cells #[.int .i64 u,sv] 198 (0,0))):=by
 rintro s X Y row h hg hrow
 refine(hg.block B (Array.getElem?_eq_some_iff.1 h).1 fun e=>?_).trans h
 obtain⟨o,ho,hc⟩:=hrow B e.symm
 rw[h] at ho
 cases ho
 cases hc
theorem zll {W w1:World} {n₀ B D:Nat} {u:Int} {sv v:Value} {tmp:Obj} {k m:Nat} {xs:List Value} (h:W.heap[B]? =some (.cells #[.int .i64 u,sv] 198 (0,0))) (hD:B≠D) (hrow:W.ownsRow n₀ 3 1 v k xs) (hg:(W.alloc tmp).grownBy w1 v.ownBlock) (a:Addr) (c:Nat):
  (w1.setCell ⟨D,0,none⟩ (.slice (some a) m c)).heap[B]? =W.heap[B]?:=by
 have hlt:=(Array.getElem?_eq_some_iff.1 h).1
 have h1:(W.alloc tmp).heap[B]? =W.heap[B]?:=RowKit.Below.heap_alloc W _ _ hlt
 have hne:some B≠v.ownBlock:=by
  rcases hrow.2 with ⟨rfl,_⟩ |⟨g,cap,cur,rfl,_,hgb,_⟩
  ·simp[Value.ownBlock]
  ·intro e'
   obtain rfl:B=g:=by simpa[Value.ownBlock] using e'
   have:=h.symm.trans hgb
   simp at this
 exact(RowKit.Below.heap_setCell _ _ _ _ hD).trans ((hg.block B (by simp; omega) hne).trans h1)
theorem zac (n:Nat) (hn:1≤n) (u:Int) (b:List Int) (sv:Value) (hl:b.length≤16000000) (hw:WfB b) (hr:z14 u b=true) (hu:0≤u∧u≤7) (k:Nat) (hk:8*(b.length:Int) -u=k) (Bs n₀:Nat) (w:World) (hn0:n₀≤w.heap.size) (hB:Bs<w.heap.size)
  (hBs:w.heap[Bs]? =some (.cells #[.int .i64 u,sv] 198 (0,0))) (hsv:ByR n₀ w sv b):
  SeqStopsK Fence.wide n Tryz.prog 194 #[.pointer (some ⟨Bs,0,none⟩)] (fun x:Nat=> #[Value.int .i64 (x:Int)]) (KpB n₀ Bs) (fun ys=>ys=z2i b k) (fun pre=>pre<+:z2i b k) k w:=fun l J Jx W hW hJ _ hY h0=>
 zji n l Bs n₀ hn u b sv hl hw hr hu k hk J Jx hY W (Nat.le_trans hn0 hW.size) (Nat.lt_of_lt_of_le hB hW.size) ((hW.block Bs hB).trans hBs) (hsv.below (hW.mono hn0)) hJ h0
set_option maxHeartbeats 4000000 in
theorem zjH (u:Int) (b:List Int) (sv:Value) (hl:b.length≤16000000) (hw:WfB b) (hr:z14 u b=true) (hu:0≤u∧u≤7) (k:Nat) (hk:8*(b.length:Int) -u=k) (h32:k≤32) (hlast:0<k→z33 b (k -1)=true) (w:World) (hsv:ByR w.heap.size w sv b):
  CallsIn Fence.wide 3 Tryz.prog 118 #[.agg #[.int .i64 u,sv]] w fun e W'=>∃ v,e= .returned (.tuple #[v,.int .i64 0])∧W'.ownsRow w.heap.size 3 1 v (z2i b k).length (enN (z2i b k))∧Below w.heap.size w W':=by
 obtain⟨i0,hi,hz0,hz1,hz2⟩:=info_parts zq5
 refine callsIn_of_wp_marks Tryz.func118 rfl trivial ?_ rfl
 simp only[Tryz.ntmps118,List.size_toArray,List.length_cons,List.length_nil,Nat.reduceAdd,Nat.reduceSub,Array.replicate_succ,Array.replicate_zero,List.push_toArray,List.append_toArray,List.nil_append,List.cons_append]
 obtain⟨w1,hw1⟩:∃ w1,w.alloc (.cells #[.int .i64 u,sv] 198)=w1:=⟨_,rfl⟩
 have z1:w1.heap.size=w.heap.size+1:=by rw[←hw1]; simp
 have b1:w1.heap[w.heap.size]? =some (.cells #[.int .i64 u,sv] 198 (0,0)):=by rw[←hw1]; exact World.alloc_heap_new w _
 have B1:Below w.heap.size w w1:=by rw[←hw1]; exact(Below.refl _ w).alloc (Nat.le_refl _) _
 have s1:=hsv.below B1
 obtain⟨c11,c12⟩:=z3R b1
 gi_wp2
 refine⟨trivial,(callsIn_wide.2 (zdR (u:=u) s1 (by omega) hl hw hr)).mono ?_⟩
 rintro e w2 ⟨rfl,g2⟩
 have z2:=g2.size
 have b2:=(g2.block w.heap.size (by omega) (by simp)).trans b1
 have B2:=B1.grown g2 (by omega) (by simp)
 have s2:=hsv.below B2
 obtain⟨c21,c22⟩:=z3R b2
 have hlc:=zbl (u:=u) s2 (by omega) hl hw hr hu
 rw[hk] at hlc
 gi_wp2
 refine⟨trivial,(callsIn_wide.2 hlc).mono ?_⟩
 rintro e w3 ⟨rfl,g3⟩
 have z3:=g3.size
 have b3:=(g3.block w.heap.size (by omega) (by simp)).trans b2
 have B3:=B2.grown g3 (by omega) (by simp)
 have s3:=hsv.below B3
 obtain⟨c31,c32⟩:=z3R b3
 by_cases h0:k=0
 ·subst h0
  gi_wp2
  refine⟨trivial,?_⟩
  obtain⟨w5,hw5⟩:∃ w5,w3.alloc (.cells #[.slice none 0 0] 22)=w5:=⟨_,rfl⟩
  have z5:w5.heap.size=w3.heap.size+1:=by rw[←hw5]; simp
  have bO:Boxed w5 w3.heap.size 22 (.slice none 0 0):=by rw[←hw5]; exact Boxed.new w3 22 _
  have b5:w5.heap[w.heap.size]? =some (.cells #[.int .i64 u,sv] 198 (0,0)):=by rw[←hw5]; exact(RowKit.Below.heap_alloc w3 _ _ (by omega)).trans b3
  have B5:Below w.heap.size w w5:=by rw[←hw5]; exact B3.alloc (by omega) _
  have s5:=hsv.below B5
  obtain⟨c51,c52⟩:=z3R b5
  gi_wp2
  refine⟨trivial,(zep 2 u sv w5).mono ?_⟩
  rintro e w6 ⟨rfl,hw6⟩
  have z6:w6.heap.size=w5.heap.size+1:=by rw[hw6]; simp
  have b6:w6.heap[w5.heap.size]? =some (.cells #[.int .i64 u,sv] 198 (0,0)):=by rw[hw6]; exact World.alloc_heap_new w5 _
  have B6:Below w.heap.size w w6:=by rw[hw6]; exact B5.alloc (by omega) _
  have bP:Boxed w6 w3.heap.size 22 (.slice none 0 0):=by rw[hw6]; exact bO.alloc _
  have s6:=s5.below (n₀:=w.heap.size) (w':=w6) (by rw[hw6]; exact(Below.refl _ w5).alloc (by omega) _)
  clear hw6
  gi_wp2
  refine wpIn_rangeFunc_ownG rfl (by decide) (gf:=194) (lb:= #[.pointer (some ⟨w5.heap.size,0,none⟩)]) (by simp[Act.eval,z5]) trivial (enters_of Tryz.func194 (by kernel_rfl) rfl)
   (zac 2 (by decide) u b sv hl hw hr hu 0 hk w5.heap.size w.heap.size w6 (by omega) (by omega) b6 s6) (fun h1 h2=>h1.trans h2)
   (fun W l o o' h1 h2 h3 h4=>⟨belowK_b (w:=w6) (by omega) W l o o' h1 h2 h3 h4,World.putObj_heap_other (by omega)⟩) (Below.refl _ _) (fun _=>rfl)
   (fun pre W=>(∃ v,Boxed W w3.heap.size 22 v∧W.ownsRow w.heap.size 3 1 v pre.length (enN pre)∧True)∧(Below w.heap.size w W∧W.heap[w5.heap.size]? =some (.cells #[.int .i64 u,sv] 198 (0,0))))
   (fun _ _ _=>False)
   (OwnFrom.and (Own.from (holdsRow_own w.heap.size w3.heap.size 22 3 1 (fun pre=>pre.length) (fun pre=>enN pre) (fun _ _=>True)) _) (OwnFrom.and (ownFrom_below (Nat.le_refl _) (by omega)) (Own.from (zeN _ u sv) _)))
   (fun _ _ _ _ _ hs _ _=>hs)
   ⟨⟨_,bP,World.ownsRow_nil _ _ _ _,trivial⟩,B6,b6⟩ ?aone ?assign ?body ?done ?stop
  case assign=>
   intro l x W K hK
   gi_wp2
   exact hK
  case body=>
   rintro l pre x W ⟨⟨v,hv,hrow,_⟩,hB,hbx⟩ hlt
   have hc:=hv.cell
   exact absurd hlt (by omega)
  case done=>
   rintro D ys W hD rfl ⟨⟨v,hv,hrow,_⟩,hB,hbx⟩ hK
   have hc:=hv.cell
   gi_wp2
   refine⟨by simp,.inl ⟨_,_,rfl,run_takeDeferred hK,?_⟩⟩
   exact⟨_,results_tmp2 rfl _ _ _,v,rfl,ownsRow_putObj hrow _ hK rfl,hB.trans (belowK_b (w:=w) (Nat.le_refl _) W D _ _ (by omega) hK rfl rfl)⟩
  case stop=>
   rintro D c pre W _ _ h _
   exact h.elim
 ·have hbc:=zbm (u:=u) (k -1) s3 (by omega) hl hw (by omega:(k -1)/8<b.length)
  rw[hlast (by omega),show((k -1:Nat):Int)=(k:Int) -1 by omega] at hbc
  gi_wp2
  refine⟨trivial,(callsIn_wide.2 hbc).mono ?_⟩
  rintro e w4 ⟨rfl,g4⟩
  have z4:=g4.size
  have b4:=(g4.block w.heap.size (by omega) (by simp)).trans b3
  have B4:=B3.grown g4 (by omega) (by simp)
  obtain⟨w5,hw5⟩:∃ w5,w4.alloc (.cells #[.slice none 0 0] 22)=w5:=⟨_,rfl⟩
  have z5:w5.heap.size=w4.heap.size+1:=by rw[←hw5]; simp
  have bO:Boxed w5 w4.heap.size 22 (.slice none 0 0):=by rw[←hw5]; exact Boxed.new w4 22 _
  have b5:w5.heap[w.heap.size]? =some (.cells #[.int .i64 u,sv] 198 (0,0)):=by rw[←hw5]; exact(RowKit.Below.heap_alloc w4 _ _ (by omega)).trans b4
  have B5:Below w.heap.size w w5:=by rw[←hw5]; exact B4.alloc (by omega) _
  have s5:=hsv.below B5
  obtain⟨c51,c52⟩:=z3R b5
  gi_wp2
  refine⟨trivial,(zep 2 u sv w5).mono ?_⟩
  rintro e w6 ⟨rfl,hw6⟩
  have z6:w6.heap.size=w5.heap.size+1:=by rw[hw6]; simp
  have b6:w6.heap[w5.heap.size]? =some (.cells #[.int .i64 u,sv] 198 (0,0)):=by rw[hw6]; exact World.alloc_heap_new w5 _
  have B6:Below w.heap.size w w6:=by rw[hw6]; exact B5.alloc (by omega) _
  have bP:Boxed w6 w4.heap.size 22 (.slice none 0 0):=by rw[hw6]; exact bO.alloc _
  have s6:=s5.below (n₀:=w.heap.size) (w':=w6) (by rw[hw6]; exact(Below.refl _ w5).alloc (by omega) _)
  clear hw6
  gi_wp2
  refine wpIn_rangeFunc_ownG rfl (by decide) (gf:=194) (lb:= #[.pointer (some ⟨w5.heap.size,0,none⟩)]) (by simp[Act.eval,z5]) trivial (enters_of Tryz.func194 (by kernel_rfl) rfl)
   (zac 2 (by decide) u b sv hl hw hr hu k hk w5.heap.size w.heap.size w6 (by omega) (by omega) b6 s6) (fun h1 h2=>h1.trans h2)
   (fun W l o o' h1 h2 h3 h4=>⟨belowK_b (w:=w6) (by omega) W l o o' h1 h2 h3 h4,World.putObj_heap_other (by omega)⟩) (Below.refl _ _) (fun _=>rfl)
   (fun pre W=>(∃ v,Boxed W w4.heap.size 22 v∧W.ownsRow w.heap.size 3 1 v pre.length (enN pre)∧True)∧(Below w.heap.size w W∧W.heap[w5.heap.size]? =some (.cells #[.int .i64 u,sv] 198 (0,0))))
   (fun _ _ _=>False)
   (OwnFrom.and (Own.from (holdsRow_own w.heap.size w4.heap.size 22 3 1 (fun pre=>pre.length) (fun pre=>enN pre) (fun _ _=>True)) _) (OwnFrom.and (ownFrom_below (Nat.le_refl _) (by omega)) (Own.from (zeN _ u sv) _)))
   (fun _ _ _ _ _ hs _ _=>hs)
   ⟨⟨_,bP,World.ownsRow_nil _ _ _ _,trivial⟩,B6,b6⟩ ?aone2 ?assign2 ?body2 ?done2 ?stop2
  case assign2=>
   intro l x W K hK
   gi_wp2
   exact hK
  case body2=>
   rintro l pre x W ⟨⟨v,hv,hrow,_⟩,hB,hbx⟩ hlt
   have hc:=hv.cell
   have hle:pre.length<33:=by omega
   gi_wp2_with (gi_at_builtin; refine wpListIn_append_own _ rfl _ _ 22 rfl w.heap.size 3 i0 (.int .i64 0) 1 8 Tryz.underlying22 hi hz0 hz1 hz2 rfl (by decide) _ _ _ rfl (hrow.alloc _) ⟨W.heap.size,0,none⟩ 1 1 [.int .i64 (x:Int)] rfl rfl (cell_one_new _ _ _) (by simp[Value.oneCell']) (by simp only[maxLen]; omega) (by omega) (by have:=hB.size; simp; omega) ?_; intro v' w1 hown' hgrow _; obtain⟨g',cap',rfl⟩:=ownsRow_succ hown'; obtain⟨hv1,hv2,hr2,hk2,hb2⟩:=hv.appended (by decide) hrow hB.size (by omega) hown' hgrow; have hc1:=hv1.cell; have hf1:=hv1.frozen)
   have hbx2:=zll (D:=w4.heap.size) (m:=pre.length+1) hbx (by omega) hrow hgrow ⟨g',0,none⟩ cap'
   exact⟨hk2.from _,⟨hb2,hbx2⟩,⟨_,hv2,by simpa[enN] using hr2,trivial⟩,hB.trans hb2,hbx2.trans hbx⟩
  case done2=>
   rintro D ys W hD rfl ⟨⟨v,hv,hrow,_⟩,hB,hbx⟩ hK
   have hc:=hv.cell
   gi_wp2
   refine⟨by simp,.inl ⟨_,_,rfl,run_takeDeferred hK,?_⟩⟩
   exact⟨_,results_tmp2 rfl _ _ _,v,rfl,ownsRow_putObj hrow _ hK rfl,hB.trans (belowK_b (w:=w) (Nat.le_refl _) W D _ _ (by omega) hK rfl rfl)⟩
  case stop2=>
   rintro D c pre W _ _ h _
   exact h.elim
end Go.Proofs.YtaagjnlkinojcaaGreat
namespace Go.Proofs.YtaagjnlkinojcaaGreat
set_option linter.unusedSimpArgs false
set_option linter.unusedVariables false
open Go.Sx
set_option maxRecDepth 10000
theorem zg3 (u:Int) (b:List Int) (hl:b.length≤16000000) (hw:WfB b) (hr:z14 u b=true) (hu:0≤u∧u≤7) (k:Nat) (hk:8*(b.length:Int) -u=k) (h:32<k∨(0<k∧z33 b (k -1)=false)):
  Ct Tryz.prog 118 [z4e u b] [] (.tup [I64 [],lv (.int .i64 6)]) [] []:=by
 have h1:=z4m u b hl hw
 rw[hr] at h1
 have h2:=z8H u b hl hw hr hu
 rw[hk] at h2
 by_cases h32:32<k
 ·by_cases h0:k=0
  ·omega
  have h3:=zax u b (k -1) hl hw (by omega)
  rw[show((k -1:Nat):Int)=(k:Int) -1 by omega] at h3
  generalize z33 b (k -1)=B at*
  refine z00 Tryz.func118 rfl rfl rfl rfl rfl (fun E hn hb=>?_)
  repeat refine nx ?_
  exact rtU []
 ·have h:=h.resolve_left h32
  have h3:=zax u b (k -1) hl hw (by omega)
  rw[show((k -1:Nat):Int)=(k:Int) -1 by omega,h.2] at h3
  have hpos:=h.1
  refine z00 Tryz.func118 rfl rfl rfl rfl rfl (fun E hn hb=>?_)
  repeat refine nx ?_
  exact rtU []
theorem zg4 (u:Int) (b:List Int) (hl:b.length≤16000000) (hw:WfB b) (hr:z14 u b=true) (hu:0≤u∧u≤7) (k:Nat) (hk:8*(b.length:Int) -u=k) (h32:k≤32) (hlast:0<k→z33 b (k -1)=true):
  Ct Tryz.prog 118 [z4e u b] [] (.tup [I64 ((z2i b k).map fun(i:Nat)=>(i:Int)),lv (.int .i64 0)]) [] []:=by
 refine⟨rfl,⟨Tryz.f118,Tryz.func118,rfl,rfl⟩,fun w β F vs hl1 ha _ _ hown hnone hF hgd=>?_⟩
 obtain⟨v,rfl⟩:∃ v,vs= [v]:=by
  match vs,hl1 with
  | [v],_=>exact⟨v,rfl⟩
 have h0:=ha 0 _ v rfl rfl
 cases h0 with | agg _ cs h1 h2=>
 obtain⟨x,y,rfl⟩:∃ x y,cs= #[x,y]:=by
  obtain⟨l⟩:=cs
  match l,h1 with
  | [x,y],_=>exact⟨x,y,rfl⟩
 have hx:=h2 0 _ x rfl rfl
 have hy:=h2 1 _ y rfl rfl
 cases hx with | lf hx=>cases hx with | v _ hx=>
 cases hy with | lf hy=>
 have hsv:ByR w.heap.size w y b:=hy.mono fun g hg=>⟨hF g hg,rfl⟩
 refine(callsIn_wide.1 (zjH u b y hl hw hr hu k hk h32 hlast w hsv)).mono ?_
 rintro e w' ⟨v,rfl,hown',hB⟩
 have hval:AvR β (fun g=>F g∨(w.heap.size≤g∧g<w'.heap.size)) w' (.tup [I64 ((z2i b k).map fun(i:Nat)=>(i:Int)),lv (.int .i64 0)]) (.tuple #[v,.int .i64 0]):=by
  refine .tup _ _ rfl fun i x u hx hu=>?_
  match i,hx,hu with
  | 0,hx,hu=>
    simp at hx hu
    subst hx; subst hu
    refine .c (.lf ?_)
    rcases hown'.2 with ⟨rfl,h0⟩ |⟨g,cap,cur,rfl,hg1,hg2,hn1,hn2,hn3,hn4⟩
    ·have:z2i b k= []:=List.eq_nil_of_length_eq_zero h0
     rw[this]
     exact .ints _ _ _ _ _ rfl (Nat.le_refl _) (by simp[Go.maxLen]) (fun h=>absurd rfl h)
    ·refine .ints _ _ _ _ _ (by simp) hn1 hn2 fun hne=>⟨g,0,rfl,.inr ⟨hg1,(Array.getElem?_eq_some_iff.1 hg2).1⟩,fun j z hz=>?_⟩
     have hj:(enN (z2i b k))[j]? =some (.int .i64 z):=by
      rw[List.getElem?_map] at hz
      unfold enN
      rw[List.getElem?_map]
      cases ho:(z2i b k)[j]? with
      | none=>rw[ho] at hz; cases hz
      | some q=>rw[ho] at hz; simp at hz ⊢; exact hz
     rw[←hn4,List.getElem?_take] at hj
     split at hj
     ·rw[Nat.zero_add]
      simp only[Go.World.cell?,hg2]
      simpa using hj
     ·cases hj
  | 1,hx,hu=>
    simp at hx hu
    subst hx; subst hu
    exact .c (.lf (.v _ rfl))
 refine⟨_,β,_,rfl,hval,fun i b hb=>by simp at hb,fun i b hb=>by simp at hb,⟨fun _ _=>rfl,fun i j g hi=>by simp at hi,fun j g hj=>by simp at hj,fun i g hi=>by simp at hi,fun g hg=>?_,⟨hB.os,hB.tape,hB.output,hB.size,fun g hg _=>hB.block g hg,fun g n hc=>hc.same (hB.block g hc.lt)⟩⟩⟩
 rcases hg with h |⟨h1,h2⟩
 ·exact⟨by have:=hF g h; have:=hB.size; omega,.inl h⟩
 ·exact⟨h2,.inr h1⟩
theorem zhM {u:Int} {b:List Int} (hr:z14 u b=true):(0≤u∧u≤7)∧8*(b.length:Int) -u=((8*b.length -u.toNat:Nat):Int):=by
 unfold z14 at hr
 split at hr
 ·rename_i h
  subst h
  simp at hr
  subst hr
  simp
 ·rename_i h
  have:=List.length_pos_iff.2 h
  simp only[Bool.and_eq_true,decide_eq_true_eq] at hr
  omega
theorem zjI (u:Int) (b:List Int) (hl:b.length≤16000000) (hw:WfB b) (hr:z14 u b=true):Ct Tryz.prog 118 [z4e u b] [] (.tup [I64 (z7n u b).1,lv (.int .i64 (z7n u b).2)]) [] []:=by
 obtain⟨hu,hk⟩:=zhM hr
 unfold z7n
 dsimp only
 by_cases h:32<8*b.length -u.toNat∨(0<8*b.length -u.toNat∧z33 b (8*b.length -u.toNat -1)=false)
 ·rw[if_pos h]
  exact zg3 u b hl hw hr hu _ hk h
 ·rw[if_neg h]
  refine zg4 u b hl hw hr hu _ hk ?_ fun h0=>?_
  ·have:=fun h2=>h (.inl h2)
   omega
  ·cases hb:z33 b (8*b.length -u.toNat -1) with
   | true=>rfl
   | false=>exact absurd (.inr ⟨h0,hb⟩) h
theorem z1j (n:Int) (b:Bool):Ct Tryz.prog 111 [lv (.int .i64 n),lv (.bool b)] [] (z2c (2,n,b)) [] []:=by
 refine z00 Tryz.func111 rfl rfl rfl rfl rfl (fun E hn hb=>?_)
 repeat refine nx ?_
 exact rt1 []
def isT (l:List Int) (p:Nat) (t:z0h):Bool:=decide ((z0d l p).2.2=0)&&decide ((z0d l p).1.1=t)
theorem z2W (l:List Int) (p:Nat) (t:z0h) (hp:p≤l.length) (hl:l.length≤16000000) (hw:WfB l):Ct Tryz.prog 110 [.c (.ptr 0 0),z2c t] [z04 l p] (lv (.bool (isT l p t))) [z04 l p] []:=by
 have hat:=z1z l p
 have hrd:=z8t l p hp hl hw
 have hle:=z1k l p hp
 unfold isT
 generalize z0d l p=R at*
 obtain⟨⟨u,n⟩,q,e⟩:=R
 dsimp only at*
 have hbk:=z1L l q p hle.1 (by omega)
 obtain⟨u1,u2,u3⟩:=u
 obtain⟨t1,t2,t3⟩:=t
 by_cases he:e=0
 ·subst he
  obtain⟨B,hB⟩:∃ B,(decide ((0:Int)=0)&&decide ((u1,u2,u3)=(t1,t2,t3)))=B:=⟨_,rfl⟩
  rw[hB]
  refine z00 Tryz.func110 rfl rfl rfl rfl rfl (fun E hn hb=>?_)
  repeat refine nx ?_
  refine rt2 [] ?_ ?_
  ·refine congrArg (fun x=>lv (.bool x)) ?_
   rw[←hB]
   simp[z2u,Cell.kill,Cell.kill1,Bool.and_assoc]
   try rfl
  ·trivial
 ·rw[decide_eq_false he]
  refine z00 Tryz.func110 rfl rfl rfl rfl rfl (fun E hn hb=>?_)
  repeat refine nx ?_
  refine rt2 [] ?_ ?_
  ·refine congrArg (fun x=>lv (.bool x)) ?_
   simp[he]
  ·trivial
abbrev zds:Av:=lv (.slice none 0 0)
abbrev zjJ:Av:=lv (.pointer none)
theorem zjK (l:List Int) (p:Nat) (n:Int) (b:Bool) (g:Nat) (hp:p≤l.length) (hl:l.length≤16000000) (hw:WfB l) (h:isT l p (2,n,b)=false):Ct Tryz.prog 108 [.c (.ptr 0 0),lv (.int .i64 n),lv (.bool b),.c (.fn (.func g) [] [])] [z04 l p] (.tup [zjJ,lv (.int .i64 0)]) [z04 l p] []:=by
 have h1:=z1j n b
 have h2:=z2W l p (2,n,b) hp hl hw
 rw[h] at h2
 refine z00 Tryz.func108 rfl rfl rfl rfl rfl (fun E hn hb=>?_)
 repeat refine nx ?_
 exact rt1 []
theorem zjL (l:List Int) (p:Nat) (n:Int) (b:Bool) (g:Nat) (hp:p≤l.length) (hl:l.length≤16000000) (hw:WfB l) (h:isT l p (2,n,b)=false):Ct Tryz.prog 115 [.c (.ptr 0 0),lv (.int .i64 n),lv (.bool b),.c (.fn (.func g) [] [])] [z04 l p] (.tup [zds,lv (.int .i64 0)]) [z04 l p] []:=by
 have h1:=z1j n b
 have h2:=z2W l p (2,n,b) hp hl hw
 rw[h] at h2
 refine z00 Tryz.func115 rfl rfl rfl rfl rfl (fun E hn hb=>?_)
 repeat refine nx ?_
 exact rt1 []
theorem zjM (l:List Int) (p:Nat) (n:Int) (b:Bool) (g:Nat) (hp:p≤l.length) (hl:l.length≤16000000) (hw:WfB l) (h:isT l p (2,n,b)=false):Ct Tryz.prog 112 [.c (.ptr 0 0),lv (.int .i64 n),lv (.bool b),.c (.fn (.func g) [] [])] [z04 l p] (.tup [zds,lv (.int .i64 0)]) [z04 l p] []:=by
 have h1:=z1j n b
 have h2:=z2W l p (2,n,b) hp hl hw
 rw[h] at h2
 refine z00 Tryz.func112 rfl rfl rfl rfl rfl (fun E hn hb=>?_)
 repeat refine nx ?_
 exact rt1 []
theorem zjN (l:List Int) (p:Nat) (n:Int) (b:Bool) (g:Nat) (hp:p≤l.length) (hl:l.length≤16000000) (hw:WfB l) (h:isT l p (2,n,b)=false):Ct Tryz.prog 149 [.c (.ptr 0 0),lv (.int .i64 n),lv (.bool b),.c (.fn (.func g) [] [])] [z04 l p] (.tup [lv (.bool false),lv (.int .i64 0)]) [z04 l p] []:=by
 have h1:=z1j n b
 have h2:=z2W l p (2,n,b) hp hl hw
 rw[h] at h2
 refine z00 Tryz.func149 rfl rfl rfl rfl rfl (fun E hn hb=>?_)
 repeat refine nx ?_
 exact rt1 []
abbrev z2d (e:Int):Blk:= .cells [.ptr 1 0,.lf (.v (.int .i64 e))]
theorem z9q (l:List Int) (p:Nat) (n:Int) (b:Bool) (g:Nat) (hp:p≤l.length) (hl:l.length≤16000000) (hw:WfB l) (h:isT l p (2,n,b)=false):Ct Tryz.prog 51 [.c (.ptr 0 0),lv (.int .i64 n),lv (.bool b),.c (.fn (.func g) [] [])] [z2d 0,z04 l p] zjJ [z2d 0,z04 l p] []:=by
 have h1:=zjK l p n b g hp hl hw h
 refine z00 Tryz.func51 rfl rfl rfl rfl rfl (fun E hn hb=>?_)
 repeat refine nx ?_
 exact rt1 []
theorem z9r (l:List Int) (p:Nat) (n:Int) (b:Bool) (g:Nat) (hp:p≤l.length) (hl:l.length≤16000000) (hw:WfB l) (h:isT l p (2,n,b)=false):Ct Tryz.prog 53 [.c (.ptr 0 0),lv (.int .i64 n),lv (.bool b),.c (.fn (.func g) [] [])] [z2d 0,z04 l p] zds [z2d 0,z04 l p] []:=by
 have h1:=zjL l p n b g hp hl hw h
 refine z00 Tryz.func53 rfl rfl rfl rfl rfl (fun E hn hb=>?_)
 repeat refine nx ?_
 exact rt1 []
theorem zjO (l:List Int) (p:Nat) (n:Int) (b:Bool) (g:Nat) (hp:p≤l.length) (hl:l.length≤16000000) (hw:WfB l) (h:isT l p (2,n,b)=false):Ct Tryz.prog 55 [.c (.ptr 0 0),lv (.int .i64 n),lv (.bool b),.c (.fn (.func g) [] [])] [z2d 0,z04 l p] zds [z2d 0,z04 l p] []:=by
 have h1:=zjM l p n b g hp hl hw h
 refine z00 Tryz.func55 rfl rfl rfl rfl rfl (fun E hn hb=>?_)
 repeat refine nx ?_
 exact rt1 []
theorem z4i (l:List Int) (p:Nat) (n:Int) (b:Bool) (g:Nat) (hp:p≤l.length) (hl:l.length≤16000000) (hw:WfB l) (h:isT l p (2,n,b)=false):Ct Tryz.prog 90 [.c (.ptr 0 0),lv (.int .i64 n),lv (.bool b),.c (.fn (.func g) [] [])] [z2d 0,z04 l p] (lv (.bool false)) [z2d 0,z04 l p] []:=by
 have h1:=zjN l p n b g hp hl hw h
 refine z00 Tryz.func90 rfl rfl rfl rfl rfl (fun E hn hb=>?_)
 repeat refine nx ?_
 exact rt1 []
theorem zhN:Ct Tryz.prog 91 [.c (.ptr 0 0)] [z04 [255] 0] (.tup [lv (.bool true),lv (.int .i64 0)]) [z04 [255] 1] []:=by
 have h1:=z6B [255] 0 (by decide) (by decide)
 refine z00 Tryz.func91 rfl rfl rfl rfl rfl (fun E hn hb=>?_)
 repeat refine nx ?_
 exact rt1 []
theorem zhO (l:List Int) (p q:Nat) (n:Int) (b:Bool) (hp:p≤l.length) (hl:l.length≤16000000) (hw:WfB l) (h:isT l p (2,n,b)=true) (ho:z0r l p (2,n,b)=([255],q,0)):Ct Tryz.prog 149 [.c (.ptr 0 0),lv (.int .i64 n),lv (.bool b),.c (.fn (.func 91) [] [])] [z04 l p] (.tup [lv (.bool true),lv (.int .i64 0)]) [z04 l q] []:=by
 have h1:=z1j n b
 have h2:=z2W l p (2,n,b) hp hl hw
 rw[h] at h2
 have h3:=z26 l p (2,n,b) hp hl hw (by rw[ho])
 rw[ho] at h3
 have h4:=zhN
 have h5:=z0S [255] 1 (by decide) (by decide)
 dsimp only at h3
 refine z00 Tryz.func149 rfl rfl rfl rfl rfl (fun E hn hb=>?_)
 repeat refine nx ?_
 exact rt1 []
theorem zhP (l:List Int) (p q:Nat) (n:Int) (b:Bool) (hp:p≤l.length) (hl:l.length≤16000000) (hw:WfB l) (h:isT l p (2,n,b)=true) (ho:z0r l p (2,n,b)=([255],q,0)):Ct Tryz.prog 90 [.c (.ptr 0 0),lv (.int .i64 n),lv (.bool b),.c (.fn (.func 91) [] [])] [z2d 0,z04 l p] (lv (.bool true)) [z2d 0,z04 l q] []:=by
 have h1:=zhO l p q n b hp hl hw h ho
 refine z00 Tryz.func90 rfl rfl rfl rfl rfl (fun E hn hb=>?_)
 repeat refine nx ?_
 exact rt1 []
end Go.Proofs.YtaagjnlkinojcaaGreat

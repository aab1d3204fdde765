/-
  The layer: cells told as raw values over a call, and back again: what a call does not look into. No condition.
-/
import Derived.Test.YtaagjnlkinojcaaGreatSxN
import Derived.Test.YtaagjnlkinojcaaGreatSxF
import Derived.Test.YtaagjnlkinojcaaGreatE8
namespace Go.Sx
open Go
set_option linter.unusedVariables false
set_option linter.unusedSimpArgs false
abbrev rvC (v:Value):Cell:= .lf (.v v)
def rvL (vs:List Value):List Cell:=vs.map rvC
theorem z3d (vs:List Value):(rvL vs).length=vs.length:=List.length_map ..
theorem zeq {vs:List Value} {i:Nat} {x:Cell} (h:(rvL vs)[i]? =some x):∃ v,vs[i]? =some v∧x=rvC v:=by
 unfold rvL at h
 rw[List.getElem?_map,Option.map_eq_some_iff] at h
 obtain⟨v,h1,h2⟩:=h
 exact⟨v,h1,h2.symm⟩
section
variable {E:Env} {σ:St} {a:Act} {w:World} {β:Nat→Option Nat} {F:Nat→Prop}
theorem SRb.outS {k i:Nat} {cs:List Cell} {x:Cell} (h:SRb E β F σ a w) (hk:σ.hp k= .cells cs) (hi:cs[i]? =some x):
  ∃ v,v.oneCell'=true∧CellR β F w x v∧SRb E β F (σ.seth k (.cells (cs.set i (rvC v)))) a w:=by
 have hB:=h.hp k
 rw[hk] at hB
 obtain⟨g,cur,e1,e2,e3,e4⟩:=hB
 have hlt:=(List.getElem?_eq_some_iff.1 hi).1
 have hv:cur[i]? =some cur[i]:=by simp[show i<cur.size by omega]
 have hx:=e4 i x _ hi hv
 refine⟨cur[i],hx.one,hx,h.setBlk (by rw[hk]; intro h; cases h) ⟨g,cur,e1,e2,by simpa using e3,fun m y u hy hu=>?_⟩⟩
 rw[List.getElem?_set] at hy
 split at hy
 ·rename_i him
  subst him
  obtain rfl:=Option.some.inj hy
  rw[hv] at hu
  obtain rfl:=Option.some.inj hu
  exact .lf (.v _ hx.one)
 ·exact e4 m y u hy hu
theorem SRb.inS {k i:Nat} {cs:List Cell} {x:Cell} {v:Value} (h:SRb E β F σ a w) (hk:σ.hp k= .cells cs) (hi:cs[i]? =some (rvC v)) (hx:CellR β F w x v):SRb E β F (σ.seth k (.cells (cs.set i x))) a w:=by
 have hB:=h.hp k
 rw[hk] at hB
 obtain⟨g,cur,e1,e2,e3,e4⟩:=hB
 have hlt:=(List.getElem?_eq_some_iff.1 hi).1
 refine h.setBlk (by rw[hk]; intro h; cases h) ⟨g,cur,e1,e2,by simpa using e3,fun m y u hy hu=>?_⟩
 rw[List.getElem?_set] at hy
 split at hy
 ·rename_i him
  subst him
  obtain rfl:=Option.some.inj hy
  have:=e4 i _ u hi hu
  cases this with | lf h=>cases h with | v _ _=>exact hx
 ·exact e4 m y u hy hu
theorem SRb.outB {k:Nat} {us:List Value} {M:List Cell} (h:SRb E β F σ a w) (hk:σ.hp k= .fr us M):
  ∃ vs:List Value,vs.length=M.length∧(∀(i:Nat) (x:Cell) (v:Value),M[i]? =some x→vs[i]? =some v→CellR β F w x v)∧SRb E β F (σ.seth k (.fr (us++vs) [])) a w:=by
 have hB:=h.hp k
 rw[hk] at hB
 obtain⟨g,cur,e1,e2,⟨e3,e5⟩,e4⟩:=hB
 have hg:∀ i v,((cur.toList.drop us.length).take M.length)[i]? =some v→i<M.length∧cur[us.length+i]? =some v:=fun i v hv=>by
  rw[List.getElem?_take] at hv
  split at hv
  ·rw[List.getElem?_drop] at hv
   exact⟨‹_›,by simpa using hv⟩
  ·cases hv
 have hR:∀(i:Nat) (x:Cell) (v:Value),M[i]? =some x→((cur.toList.drop us.length).take M.length)[i]? =some v→CellR β F w x v:=fun i x v hx hv=>e4 i x v hx (hg i v hv).2
 refine⟨(cur.toList.drop us.length).take M.length,by simp; omega,hR,h.setBlk (by rw[hk]; intro h; cases h) ⟨g,cur,e1,e2,⟨by simp; omega,fun i v hv=>?_⟩,fun i x v hx=>by simp at hx⟩⟩
 rw[List.getElem?_append] at hv
 split at hv
 ·exact e5 i v hv
 ·rename_i h1
  obtain⟨h2,h3⟩:=hg _ v hv
  rw[show us.length+(i -us.length)=i by omega] at h3
  exact⟨h3,(hR (i -us.length) (M[i -us.length]) v (by simp[h2]) hv).one⟩
theorem SRb.inB {k:Nat} {us vs:List Value} {M:List Cell} (h:SRb E β F σ a w) (hk:σ.hp k= .fr (us++vs) []) (hl:vs.length=M.length) (hM:∀(i:Nat) (x:Cell) (v:Value),M[i]? =some x→vs[i]? =some v→CellR β F w x v):
  SRb E β F (σ.seth k (.fr us M)) a w:=by
 have hB:=h.hp k
 rw[hk] at hB
 obtain⟨g,cur,e1,e2,⟨e3,e5⟩,e4⟩:=hB
 rw[List.length_append] at e3
 refine h.setBlk (by rw[hk]; intro h; cases h) ⟨g,cur,e1,e2,⟨by omega,fun i v hv=>e5 i v (by rw[List.getElem?_append_left (List.getElem?_eq_some_iff.1 hv).1]; exact hv)⟩,fun i x u hx hu=>?_⟩
 have hi:=(List.getElem?_eq_some_iff.1 hx).1
 have h1:vs[i]? =some (vs[i]'(by omega)):=by simp[show i<vs.length by omega]
 have h2:=(e5 (us.length+i) _ (by rw[List.getElem?_append_right (by omega),Nat.add_sub_cancel_left]; exact h1)).1
 rw[h2] at hu
 obtain rfl:=Option.some.inj hu
 exact hM i x _ hx h1
theorem z0p.to_fr {j:Nat} {us:List Value} {cs:List Cell} (hB:z0p β F w j (.cells (rvL us++cs))):z0p β F w j (.fr us cs):=by
 obtain⟨g,cur,e1,e2,e3,e4⟩:=hB
 rw[List.length_append,z3d] at e3
 refine⟨g,cur,e1,e2,⟨e3,fun i v hv=>?_⟩,fun i x v hx hv=>e4 (us.length+i) x v ?_ hv⟩
 ·have hi:=(List.getElem?_eq_some_iff.1 hv).1
  have h1:cur[i]? =some (cur[i]'(by omega)):=by simp[show i<cur.size by omega]
  have h2:=e4 i (rvC v) _ (by rw[List.getElem?_append_left (by rw[z3d]; exact hi)]; unfold rvL; rw[List.getElem?_map,hv]; rfl) h1
  generalize cur[i]'(by omega)=u at*
  cases h2 with | lf h=>cases h with | v _ h=>exact⟨h1,h⟩
 ·rw[List.getElem?_append_right (by rw[z3d]; omega),z3d,Nat.add_sub_cancel_left]
  exact hx
theorem z0p.of_fr {j:Nat} {us:List Value} {cs:List Cell} (hB:z0p β F w j (.fr us cs)):z0p β F w j (.cells (rvL us++cs)):=by
 obtain⟨g,cur,e1,e2,⟨e3,e5⟩,e4⟩:=hB
 refine⟨g,cur,e1,e2,by rw[List.length_append,z3d]; exact e3,fun i x u hx hu=>?_⟩
 rw[List.getElem?_append] at hx
 split at hx
 ·obtain⟨v,hv,rfl⟩:=zeq hx
  obtain⟨h1,h2⟩:=e5 i v hv
  rw[h1] at hu
  obtain rfl:=Option.some.inj hu
  exact .lf (.v _ h2)
 ·rename_i h1
  rw[z3d] at hx h1
  exact e4 _ x u hx (by rw[show us.length+(i -us.length)=i by omega]; exact hu)
theorem SRb.cells_fr {j:Nat} {cs:List Cell} {us:List Value} (hj:σ.hp j= .cells (rvL us++cs)) (h:SRb E β F σ a w):SRb E β F (σ.seth j (.fr us cs)) a w:=
 h.setBlk (by rw[hj]; intro h; cases h) (by have:=h.hp j; rw[hj] at this; exact this.to_fr)
theorem SRb.fr_cells {j:Nat} {us:List Value} {cs:List Cell} (hj:σ.hp j= .fr us cs) (h:SRb E β F σ a w):SRb E β F (σ.seth j (.cells (rvL us++cs))) a w:=
 h.setBlk (by rw[hj]; intro h; cases h) (by have:=h.hp j; rw[hj] at this; exact this.of_fr)
theorem SR.to_fr (j:Nat) {cs:List Cell} (hj:σ.hp j= .cells cs) (h:SR E σ a w):SR E (σ.seth j (.fr [] cs)) a w:=by
 obtain⟨β,F,h⟩:=h
 exact⟨β,F,h.cells_fr (us:= []) hj⟩
theorem SR.cut_fr (j:Nat) {us:List Value} {cs:List Cell} (hj:σ.hp j= .fr us cs) (h:SR E σ a w):SR E (σ.seth j (.fr us [])) a w:=by
 obtain⟨β,F,h⟩:=h
 have hB:=h.hp j
 rw[hj] at hB
 obtain⟨g,cur,e1,e2,⟨e3,e5⟩,e4⟩:=hB
 exact⟨β,F,h.setBlk (by rw[hj]; intro h; cases h) ⟨g,cur,e1,e2,⟨by simp; omega,e5⟩,fun i x v hx=>by simp at hx⟩⟩
end
theorem SR.cell_nilS {E:Env} {σ:St} {a:Act} {w:World} (sz j i K:Nat) {cs cs':List Cell} (hj:σ.hp j= .cells cs) (hi:cs[i]? =some (.lf (.v (.slice none 0 0)))) (hK:Nat.ble 64 K=true) (hne:Nat.beq j K=false) (hcs:((cs.map (Cell.kill K)).set i (.own K sz 0 0))=cs') (h:SR E σ a w):
  SR E (((σ.kill K).seth K (.row (.recs sz []))).seth j (.cells cs')) a w:=by
 subst hcs
 have hjK:j≠K:=by intro e; subst e; simp at hne
 obtain⟨β,F,h⟩:=h
 have hK64:64≤K:=by simpa using hK
 have hk:=h.kill K (by have:=h.nbl; omega)
 have hB:=hk.hp j
 have hjk:(σ.kill K).hp j= .cells (cs.map (Cell.kill K)):=by simp[St.kill,hjK,hj,Blk.kill]
 rw[hjk] at hB
 obtain⟨g,cur,e1,e2,e3,e4⟩:=hB
 have h2:SRb E (fun i=>if i=K then none else β i) F ((σ.kill K).seth K (.row (.recs sz []))) a w:=by
  refine⟨hk.tm,hk.sz,hk.df,fun i=>?_,fun i l g h1 h2 e1 e2=>?_,fun i g h1 e=>?_,hk.lt,hk.fr,hk.keep,hk.bb,hk.nbl⟩
  ·by_cases e:i=K
   ·subst e
    simp only[St.seth,if_true]
    exact⟨fun r hr=>by simp at hr,.inl ⟨rfl,fun g hg=>by simp at hg⟩⟩
   ·simpa[St.seth,e] using hk.hp i
  ·by_cases ek:i=K
   ·subst ek; simp at e1
   ·by_cases el:l=K
    ·subst el; simp at e2
    ·exact hk.inj i l g (by simpa[St.seth,ek] using h1) (by simpa[St.seth,el] using h2) e1 e2
  ·by_cases ek:i=K
   ·subst ek; simp at e
   ·exact hk.own i g (by simpa[St.seth,ek] using h1) e
 refine⟨_,F,h2.setBlk (j:=j) (by simp[St.seth,hjK,hjk]) ⟨g,cur,e1,e2,by simpa using e3,fun m x v hx hv=>?_⟩⟩
 rw[List.getElem?_set] at hx
 split at hx
 ·rename_i him
  subst him
  split at hx
  ·simp only[Option.some.injEq] at hx
   subst hx
   have h5:(cs.map (Cell.kill K))[i]? =some (.lf (.v (.slice none 0 0))):=by rw[List.getElem?_map,hi]; rfl
   have:=e4 i _ v h5 hv
   cases this with | lf h=>cases h with | v _ _=>exact .own _ _ _ _ _ _ (Nat.le_refl _) (by decide) (.inl rfl)
  ·cases hx
 ·exact e4 m x v hx hv
section
variable {P:Program} {E:Env} {ops:Array Oper} {Q:Exit→Act→World→Prop} {rest:List Oper} {o:Oper} {σ:St}
theorem zd0 {V:Type} {c:Call} {fo:Operand} {f:FuncId} {first cap:List Cell} {pf:List Prop} {xs:List Av} {res:Av} {nn:Nat} {bor bor' news:V→List Blk} {l:List (Nat×Av)} {hs:List (Nat×Blk)} (bs:List Nat)
  (τ τ2:V→St) (R:(Nat→Option Nat)→(Nat→Prop)→World→V→Prop)
  (hop:o.op= .call c) (hg:o.guard=none) (hd:z0e E.n o.dst=true) (hcv:c.callee= .value fo)
  (hout:∀ β F a w,SRb E β F (σ.kills (z07 o.dst nn)) a w→∃ v,R β F w v∧SRb E β F (τ v) a w)
  (hF:∀ β F w v,R β F w v→(news v).length=nn∧CtM P f xs (bor v) res (bor' v) (news v))
  (hin:∀ β F β' F' a w w' v,R β F w v→(∀(x:Cell) (u:Value),CellR β F w x u→CellR β' F' w' x u)→SRb E β' F' (z0u (τ v) bs o.dst (bor' v) (news v)) a w'→SRb E β' F' (τ2 v) a w')
  (hfo:∀ v,ox (τ v) fo=(pf,.c (.fn (.func f) first cap)))
  (hp:∀ v,z03 (pf++(oxs (τ v) c.args.toList).1))
  (hC:∀ β F w v,R β F w v→CallOk (τ v) (first.map Av.c++(oxs (τ v) c.args.toList).2++cap.map Av.c) xs (bor v) res (bor' v) (news v) bs o.dst)
  (hE:∀ β F w v,R β F w v→Eqs ((τ2 v).put o.dst (res.ren (z0B bs o.dst nn))) l hs)
  (hk:WL P E ops Q rest (.of l hs)):WL P E ops Q (o::rest) σ:=by
 intro a w hS
 refine wpList_plain hg fun K hK=>?_
 obtain⟨β0,F,hS0⟩:=hS
 obtain⟨β,hS,hnone⟩:=hS0.kills (z07 o.dst nn) (fun k hk=>by
  obtain⟨i,_,rfl⟩:=(z1y _ _).1 hk
  have:=hS0.nbl
  simp only[nk]; omega)
 obtain⟨V0,hR,hT⟩:=hout β F a w hS
 obtain⟨hnn,hG⟩:=hF _ _ _ V0 hR
 clear hF
 subst hnn
 have hfv:=oxR hT fo
 rw[hfo] at hfv
 have hp:=hp V0
 have hC:=hC _ _ _ V0 hR
 have hE:=hE _ _ _ V0 hR
 have hfv:=hfv hp.left
 generalize hv:a.eval fo=fv at hfv
 cases hfv with | c hfv=>cases hfv with | fn _ _ _ f1 c1 n1 n2 r1 r2=>
 obtain⟨l1,l2⟩:=z59 hT c.args.toList hp.right
 have hrun:(execOp a.eval o).run P w= .ok (.enter f (f1++c.args.map a.eval++c1)) w:=by
  simp only[execOp,hop,resolve,hcv,hv,Deferred.ofValue,Sem.run_bind,Sem.run_pure,Result.andThen_ok,invoke]
  exact z22 hG.2.1
 unfold Oper.wp
 rw[hrun,Oper.upon_enter]
 have hcore:=z5a (vs:=(f1++c.args.map a.eval++c1).toList) hG hT (fun i=>by
  rcases Nat.lt_or_ge i (news V0).length with h | h
  ·exact .inl (hnone _ (.inr ((z1y _ _).2 ⟨i,h,rfl⟩)))
  ·exact .inr h) hC (by simp[n1,n2,l1]) (fun i y v hy hv=>by
   simp only[Array.toList_append,List.append_assoc] at hv
   rw[List.append_assoc] at hy
   rcases Nat.lt_or_ge i first.length with h | h
   ·rw[List.getElem?_append_left (by simpa using h)] at hy
    rw[List.getElem?_append_left (by simp[n1]; exact h)] at hv
    rw[List.getElem?_map,Option.map_eq_some_iff] at hy
    obtain⟨x,hx,rfl⟩:=hy
    exact .c (r1 i x v hx (by simpa using hv))
   ·rw[List.getElem?_append_right (by simpa using h)] at hy
    rw[List.getElem?_append_right (by simp[n1]; exact h)] at hv
    simp only[List.length_map,Array.length_toList,n1] at hy hv
    rcases Nat.lt_or_ge (i -first.length) c.args.toList.length with h' | h'
    ·rw[List.getElem?_append_left (by rw[l1]; exact h')] at hy
     rw[List.getElem?_append_left (by simpa using h')] at hv
     exact l2 _ y v hy (by simpa using hv)
    ·rw[List.getElem?_append_right (by rw[l1]; exact h')] at hy
     rw[List.getElem?_append_right (by simpa using h')] at hv
     rw[List.getElem?_map,Option.map_eq_some_iff] at hy
     obtain⟨x,hx,rfl⟩:=hy
     refine .c (r2 _ x v hx ?_)
     simp only[l1] at hx
     simpa[l1] using hv)
 rw[Array.toArray_toList] at hcore
 refine hcore.mono fun e w' hq=>?_
 obtain⟨v,rfl,β',F',hv',hmono,_,hS'⟩:=hq
 have hS2:=hin β F β' F' a w w' V0 hR hmono hS'
 exact hK _ _ (hk _ _ (SR.weaken ⟨β',F',hS2.put hv' (z0x hd)⟩ (St.le_of hE)))
theorem SRb.passB {β:Nat→Option Nat} {F:Nat→Prop} {a:Act} {w:World} (h:SRb E β F σ a w) {j K:Nat} {blk:Blk} (hj:σ.hp j=blk) (hgone:blk≠ .gone) (hK:β K=none) (hKb:E.nb≤K):
  SRb E (fun i=>if i=K then β j else β i) F ⟨σ.tm,fun i=>if i=K then blk else if i=j then .gone else σ.hp i⟩ a w:=by
 have hgone:σ.hp j≠ .gone:=by rw[hj]; exact hgone
 have hβ:∀ i g,β i=some g→(if i=K then β j else β i)=some g:=by
  intro i g hi
  rw[if_neg (by intro e; subst e; rw[hK] at hi; cases hi)]; exact hi
 have hne:∀ i,i≠K→(if i=K then blk else if i=j then .gone else σ.hp i)≠ .gone→i≠j∧σ.hp i≠ .gone:=by
  intro i hi h1
  rw[if_neg hi] at h1
  by_cases e:i=j
  ·rw[if_pos e] at h1; exact absurd rfl h1
  ·rw[if_neg e] at h1; exact⟨e,h1⟩
 refine⟨fun i=>(h.tm i).mono hβ (fun b hb=>⟨hb,rfl⟩) (fun _ _ h=>h),h.sz,h.df,fun i=>?_,fun i k g hi hk e1 e2=>?_,fun i g hi e=>?_,fun i g e=>?_,h.fr,h.keep,fun i hi=>?_,h.nbl⟩
 ·show z0p _ F w i (if i=K then blk else if i=j then .gone else σ.hp i)
  by_cases e:i=K
  ·rw[if_pos e]
   subst e
   have hB:=h.hp j
   rw[hj] at hB
   cases blk with
   | gone=>trivial
   | cells cs=>
     obtain⟨g,cur,e1,e2,e3,e4⟩:=hB
     exact⟨g,cur,by simpa using e1,e2,e3,fun i x v hx hv=>(e4 i x v hx hv).mono hβ (fun b hb=>⟨hb,rfl⟩) (fun _ _ h=>h)⟩
   | fr vs cs=>
     obtain⟨g,cur,e1,e2,e3,e4⟩:=hB
     exact⟨g,cur,by simpa using e1,e2,e3,fun i x v hx hv=>(e4 i x v hx hv).mono hβ (fun b hb=>⟨hb,rfl⟩) (fun _ _ h=>h)⟩
   | map es=>
     obtain⟨g,ms,ck,e1,e2⟩:=hB
     exact⟨g,ms,ck,by simpa using e1,e2⟩
   | raw g ob=>
     obtain⟨e1,e2⟩:=hB
     exact⟨by simpa using e1,e2⟩
   | mapS g ms ck es=>
     obtain⟨e1,e2⟩:=hB
     exact⟨by simpa using e1,e2⟩
   | row d=>
     cases d with
     | ints k l=>
       rcases hB with ⟨e1,e2⟩ |⟨g,cur,e1,e2,e3⟩
       ·exact .inl ⟨e1,fun g hg=>e2 g (by simpa using hg)⟩
       ·exact .inr ⟨g,cur,by simpa using e1,e2,e3⟩
     | recs s l=>
       refine⟨hB.1,?_⟩
       rcases hB.2 with ⟨e1,e2⟩ |⟨g,cur,e1,e2,e3⟩
       ·exact .inl ⟨e1,fun g hg=>e2 g (by simpa using hg)⟩
       ·exact .inr ⟨g,cur,by simpa using e1,e2,e3⟩
     | v=>exact hB.elim
     | obj=>exact hB.elim
  ·rw[if_neg e]
   by_cases e':i=j
   ·rw[if_pos e']; exact trivial
   ·rw[if_neg e']
    have hB:=h.hp i
    revert hB
    cases σ.hp i with
    | gone=>exact fun _=>trivial
    | cells cs=>
      rintro⟨g,cur,e1,e2,e3,e4⟩
      exact⟨g,cur,(if_neg e).trans e1,e2,e3,fun i x v hx hv=>(e4 i x v hx hv).mono hβ (fun b hb=>⟨hb,rfl⟩) (fun _ _ h=>h)⟩
    | fr vs cs=>
      rintro⟨g,cur,e1,e2,e3,e4⟩
      exact⟨g,cur,(if_neg e).trans e1,e2,e3,fun i x v hx hv=>(e4 i x v hx hv).mono hβ (fun b hb=>⟨hb,rfl⟩) (fun _ _ h=>h)⟩
    | map es=>
      rintro⟨g,ms,ck,e1,e2⟩
      exact⟨g,ms,ck,(if_neg e).trans e1,e2⟩
    | raw g ob=>
      rintro⟨e1,e2⟩
      exact⟨(if_neg e).trans e1,e2⟩
    | mapS g ms ck es=>
      rintro⟨e1,e2⟩
      exact⟨(if_neg e).trans e1,e2⟩
    | row d=>
      cases d with
      | ints k l=>
        rintro(⟨e1,e2⟩ |⟨g,cur,e1,e2,e3⟩)
        ·exact .inl ⟨e1,fun g hg=>e2 g ((if_neg e).symm.trans hg)⟩
        ·exact .inr ⟨g,cur,(if_neg e).trans e1,e2,e3⟩
      | recs s l=>
        rintro⟨e0,⟨e1,e2⟩ |⟨g,cur,e1,e2,e3⟩⟩
        ·exact⟨e0,.inl ⟨e1,fun g hg=>e2 g ((if_neg e).symm.trans hg)⟩⟩
        ·exact⟨e0,.inr ⟨g,cur,(if_neg e).trans e1,e2,e3⟩⟩
      | v=>exact fun h=>h
      | obj=>exact fun h=>h
 ·by_cases ei:i=K
  ·by_cases ek:k=K
   ·rw[ei,ek]
   ·rw[if_pos ei] at e1
    rw[if_neg ek] at e2
    obtain⟨n1,n2⟩:=hne k ek hk
    exact absurd (h.inj j k g hgone n2 e1 e2).symm n1
  ·by_cases ek:k=K
   ·rw[if_pos ek] at e2
    rw[if_neg ei] at e1
    obtain⟨n1,n2⟩:=hne i ei hi
    exact absurd (h.inj i j g n2 hgone e1 e2) n1
   ·rw[if_neg ei] at e1
    rw[if_neg ek] at e2
    exact h.inj i k g (hne i ei hi).2 (hne k ek hk).2 e1 e2
 ·by_cases ei:i=K
  ·rw[if_pos ei] at e
   exact h.own j g hgone e
  ·rw[if_neg ei] at e
   exact h.own i g (hne i ei hi).2 e
 ·by_cases ei:i=K
  ·rw[if_pos ei] at e
   exact h.lt j g e
  ·rw[if_neg ei] at e
   exact h.lt i g e
 ·rw[if_neg (by omega)]
  exact h.bb i hi
theorem zrJ {ns b own:List Nat} {bs:List (List Nat×List Nat)} {l:List Oper} {K:St→Prop} {t e:TypeId} {sz by_ n dn:Nat} {parts:Array (Nat×Operand)} {ps:List Prop} {out:List Cell} (hop:o.op= .buildSlice t n parts) (hg:o.guard=none) (hd:o.dst=some dn) (hE0:z0e E.n (some dn)=true)
  (hE:Elt P t e sz by_) (hz:z01 P e) (hf:z1A (fun i=>some (i*sz,sz)) (List.replicate (n*sz) .un) (parts.toList.map fun(i,x)=>(i,ox ⟨σ.tm,fgt b σ.hp⟩ x))=some (ps,out)) (hp:z03 ps) (hn:n*sz≤10000∧n≤10000) (hlo:out.length=n*sz)
  (hgone:σ.hp (nk (some dn) 0)= .gone) (hb:z0c (nk (some dn) 0) b=false) (hns:z0c (nk (some dn) 0) ns=true) (ho:z0c (nk (some dn) 0) own=true)
  (hk:z0a P E ops ns bs l ((σ.seth (nk (some dn) 0) (.cells out)).put (some dn) (.c (.own (nk (some dn) 0) sz 0 n))) K):z0a P E ops ns ((b,own)::bs) (o::l) σ K:=by
 have eu:∀ hp:Nat→Blk,z1a hp [(nk (some dn) 0,.cells out)]=fun i=>if i=nk (some dn) 0 then .cells out else hp i:=fun hp=>z5U hp _ _
 refine z3r (x:= .c (.own (nk (some dn) 0) sz 0 n)) (u:= [(nk (some dn) 0,.cells out)]) ?_ (zcV ho) ?_
 ·intro τ hl β F a w hS hnn K Q hK
  rw[show Region.wanted o (yielded ops a.tmps)=true by simp[Region.wanted,hg],if_pos rfl]
  have hgτ:τ.hp (nk (some dn) 0)= .gone:=by rw[hl.hp _ hb]; exact hgone
  have hnb:E.nb≤nk (some dn) 0:=by
   have:=hS.nbl
   simp only[nk,Option.getD_some,Nat.mul_zero,Nat.add_zero]
   omega
  have h1:=hnn dn hd hns
  have hcut:SRb E β F ⟨τ.tm,fgt b σ.hp⟩ a w:=hS.cut hl
  have e1:(parts.toList.map fun(i,x)=>(i,ox ⟨τ.tm,fgt b σ.hp⟩ x))=parts.toList.map fun(i,x)=>(i,ox ⟨σ.tm,fgt b σ.hp⟩ x):=List.map_congr_left fun p hp=>by
   obtain⟨i,x⟩:=p
   have:ox τ x=ox σ x:=hl.ox x (by
    rw[hop]
    simp only[Op.operands]
    simp
    exact⟨i,by simpa using hp⟩)
   have:ox ⟨τ.tm,fgt b σ.hp⟩ x=ox ⟨σ.tm,fgt b σ.hp⟩ x:=this
   simp only[this]
  obtain⟨r,hrun,r1,r2⟩:=zgu hcut hE hz (by rw[e1]; exact hf) hp (by omega)
  have hrow:=z3h (w:=w) r e
  have hs:∀ k,k<w.heap.size→(w.alloc (.cells r e)).heap[k]? =w.heap[k]?:=fun k hk=>RowKit.Below.heap_alloc w _ k hk
  have hβ:∀ i g,β i=some g→(if i=nk (some dn) 0 then some w.heap.size else β i)=some g:=by
   intro i g hi
   rw[if_neg (by intro e; subst e; rw[h1] at hi; cases hi)]; exact hi
  obtain⟨hS2,h2⟩:=hS.alloc h1 hnb hgτ (.cells r e) (.cells out) ⟨w.heap.size,r,by simp,hrow,by omega,fun i x v hx hv=>
   (r2 i x v hx hv).mono hβ (fun b hb=>⟨hb,hs b (hS.fr b hb).1⟩) (fun g n hc=>hc.same (hs g hc.lt))⟩
  unfold Oper.wp
  have hrun2:(execOp a.eval o).run P w= .ok (.value (.slice (some ⟨w.heap.size,0,none⟩) n n)) (w.alloc (.cells r e)):=by
   simp only[execOp,hop,Sem.run_bind,hrun,Result.andThen_ok]
   rfl
  rw[hrun2]
  refine hK _ _ (fun i=>if i=nk (some dn) 0 then some w.heap.size else β i) F ?_ fun k hk=>?_
  ·rw[hd,eu]
   exact hS2.put (.c (.own _ _ _ _ _ _ (Nat.le_refl _) (by simp only[maxLen]; omega) (.inr ⟨w.heap.size,by simp,rfl,r,hrow,by omega⟩))) (z0x hE0)
  ·refine if_neg fun e=>?_
   rw[e] at hk
   simp[z0N] at hk
 ·rw[eu,hd]
  exact hk
theorem zrK {ns b own:List Nat} {bs:List (List Nat×List Nat)} {l:List Oper} {K:St→Prop} {t e:TypeId} {sz by_ dn:Nat} {c:Call} {x y:Operand} {px qs:List Prop} {j i k m:Nat} {us:List Value} {cs xs:List Cell} (hop:o.op= .call c) (hc:c.callee= .builtin .append) (ha:c.args.toList= [x,y]) (hty:c.argTypes.toList= [t,t]) (hg:o.guard=none) (hd:o.dst=some dn) (hE0:z0e E.n (some dn)=true)
  (hE:Elt P t e sz by_) (hx:ox ⟨σ.tm,fgt b σ.hp⟩ x=(px,.c (.own j sz 0 k))) (hb:σ.hp j= .fr us cs) (hy:ox ⟨σ.tm,fgt b σ.hp⟩ y=(qs,.c (.own i sz 0 m))) (hbi:σ.hp i= .cells xs) (hp:z03 (px++qs)) (hlen:us.length+cs.length=k*sz∧xs.length=m*sz∧0<k∧0<m∧0<sz)
  (hlim:k+m≤1000∧by_≤4096) (hjb:z0c j b=false) (hib:z0c i b=false) (hjo:z0c j own=true) (hjK:Nat.beq j (nk (some dn) 0)=false)
  (hgone:σ.hp (nk (some dn) 0)= .gone) (hKb:z0c (nk (some dn) 0) b=false) (hns:z0c (nk (some dn) 0) ns=true) (ho:z0c (nk (some dn) 0) own=true)
  (hk:z0a P E ops ns bs l (((σ.seth j .gone).seth (nk (some dn) 0) (.fr us (cs++xs))).put (some dn) (.c (.own (nk (some dn) 0) sz 0 (k+m)))) K):z0a P E ops ns ((b,own)::bs) (o::l) σ K:=by
 generalize hKK:nk (some dn) 0=KK at*
 have hne:j≠KK:=fun e=>by rw[e] at hjK; simp at hjK
 have hij:i≠j:=by rintro rfl; rw[hb] at hbi; cases hbi
 have eu:∀ hp:Nat→Blk,z1a hp [(KK,.fr us (cs++xs)),(j,.gone)]=fun i=>if i=KK then .fr us (cs++xs) else if i=j then .gone else hp i:=fun hp=>zpJ hp _ _ _
 refine z3r (x:= .c (.own KK sz 0 (k+m))) (u:= [(KK,.fr us (cs++xs)),(j,.gone)]) ?_ (zpK hjo ho) ?_
 ·intro τ hl β F a w hS hnn K Q hK
  rw[show Region.wanted o (yielded ops a.tmps)=true by simp[Region.wanted,hg],if_pos rfl]
  have hgτ:τ.hp KK= .gone:=by rw[hl.hp _ hKb]; exact hgone
  have hnb:E.nb≤KK:=by
   have:=hS.nbl
   rw[←hKK]
   simp only[nk,Option.getD_some,Nat.mul_zero,Nat.add_zero]
   omega
  have h1:=hnn dn hd (by rw[hKK]; exact hns)
  rw[hKK] at h1
  have hjτ:τ.hp j= .fr us cs:=by rw[hl.hp _ hjb]; exact hb
  have hiτ:τ.hp i= .cells xs:=by rw[hl.hp _ hib]; exact hbi
  have e1:ox τ x=ox σ x:=hl.ox x (by rw[hop]; simp[Op.operands,Call.operands,ha,hc])
  have e2:ox τ y=ox σ y:=hl.ox y (by rw[hop]; simp[Op.operands,Call.operands,ha,hc])
  have hS1:SRb E β F (τ.seth j (.cells (rvL us++cs))) a w:=hS.fr_cells hjτ
  obtain⟨v,w',hrun,hres⟩:=zgv (σ:=⟨τ.tm,fgt b σ.hp⟩) (τ:=τ.seth j (.cells (rvL us++cs))) (cs:=rvL us++cs) (xs:=xs) (hS.cut hl) hS1 hop hc ha hty hE (by rw[←hx]; exact e1) (by simp[St.seth]) (by rw[←hy]; exact e2) (by simp only[St.seth,hij,if_false]; exact hiτ) hp ⟨by rw[List.length_append,z3d]; exact hlen.1,hlen.2⟩ hlim
  unfold Oper.wp
  rw[hrun]
  rcases hres with ⟨hS2,g,cap,rfl,c1,c2,c3,c4⟩ |⟨g,cap,cur,rfl,c1,c2,hgb,g1,g2,hrow,hcap,hle,hcc⟩
  ·rw[List.append_assoc] at hS2
   have hS3:=hS2.cells_fr (j:=j) (us:=us) (cs:=cs++xs) (by simp[St.seth])
   have h2:=hS3.passB (j:=j) (K:=KK) (blk:= .fr us (cs++xs)) (by simp[St.seth]) (by intro h; cases h) h1 hnb
   have e3:(⟨(((τ.seth j (.cells (rvL us++cs))).seth j (.cells (rvL us++(cs++xs)))).seth j (.fr us (cs++xs))).tm,fun i=>if i=KK then .fr us (cs++xs) else if i=j then .gone else(((τ.seth j (.cells (rvL us++cs))).seth j (.cells (rvL us++(cs++xs)))).seth j (.fr us (cs++xs))).hp i⟩:St)=⟨τ.tm,z1a τ.hp [(KK,.fr us (cs++xs)),(j,.gone)]⟩:=by
    rw[eu]
    show St.mk _ _=St.mk _ _
    congr 1
    funext i
    by_cases e:i=KK
    ·rw[if_pos e,if_pos e]
    ·rw[if_neg e,if_neg e]
     by_cases e':i=j
     ·rw[if_pos e',if_pos e']
     ·rw[if_neg e',if_neg e']; simp[St.seth,e']
   rw[e3] at h2
   refine hK _ _ (fun i=>if i=KK then β j else β i) F ?_ fun k hk=>?_
   ·rw[hd]
    exact h2.put (.c (.own _ _ _ _ _ _ c1 c2 (.inr ⟨g,by simpa using c3,rfl,c4⟩))) (z0x hE0)
   ·refine if_neg fun e=>?_
    rw[e] at hk
    simp[z0N] at hk
  ·have hβ:∀ i g',β i=some g'→(if i=KK then some g else β i)=some g':=by
    intro i g' hi
    rw[if_neg (by intro e; subst e; rw[h1] at hi; cases hi)]; exact hi
   have hB:z0p (fun i=>if i=KK then some g else β i) F w' KK (.cells (rvL us++(cs++xs))):=by
    rw[←List.append_assoc]
    exact⟨g,cur,by simp,hrow,hle,fun p x u hx hu=>(hcc p x u hx hu).mono hβ (fun b hb=>⟨hb,rfl⟩) (fun _ _ h=>h)⟩
   have h2:=hS.grow (g:=g) h1 hnb hgτ hgb g1 g2 (.fr us (cs++xs)) hB.to_fr
   have h3:=h2.lose (τ:=⟨τ.tm,z1a τ.hp [(KK,.fr us (cs++xs)),(j,.gone)]⟩) rfl (fun i=>by
    show z1a τ.hp [(KK,.fr us (cs++xs)),(j,.gone)] i=(if i=KK then .fr us (cs++xs) else τ.hp i)∨z1a τ.hp [(KK,.fr us (cs++xs)),(j,.gone)] i= .gone
    rw[eu]
    dsimp only
    by_cases e:i=KK
    ·rw[if_pos e,if_pos e]; exact .inl rfl
    ·rw[if_neg e,if_neg e]
     by_cases e':i=j
     ·rw[if_pos e']; exact .inr rfl
     ·rw[if_neg e']; exact .inl rfl)
   refine hK _ _ (fun i=>if i=KK then some g else β i) F ?_ fun k hk=>?_
   ·rw[hd]
    exact h3.put (.c (.own _ _ _ _ _ _ c1 c2 (.inr ⟨g,by simp,rfl,cur,hrow,hcap⟩))) (z0x hE0)
   ·refine if_neg fun e=>?_
    rw[e] at hk
    simp[z0N] at hk
 ·rw[eu,hd]
  have:(fun i=>if i=KK then(.fr us (cs++xs):Blk) else if i=j then .gone else σ.hp i)=((σ.seth j .gone).seth KK (.fr us (cs++xs))).hp:=rfl
  rw[this]
  exact hk
theorem zrL {ns b own:List Nat} {bs:List (List Nat×List Nat)} {l:List Oper} {K:St→Prop} {t e:TypeId} {sz by_ dn:Nat} {c:Call} {x y:Operand} {px qs:List Prop} {i m:Nat} {xs:List Cell} (hop:o.op= .call c) (hc:c.callee= .builtin .append) (ha:c.args.toList= [x,y]) (hty:c.argTypes.toList= [t,t]) (hg:o.guard=none) (hd:o.dst=some dn) (hE0:z0e E.n (some dn)=true)
  (hE:Elt P t e sz by_) (hx:ox ⟨σ.tm,fgt b σ.hp⟩ x=(px,lv (.slice none 0 0))) (hy:ox ⟨σ.tm,fgt b σ.hp⟩ y=(qs,.c (.own i sz 0 m))) (hbi:σ.hp i= .cells xs) (hp:z03 (px++qs)) (hlen:xs.length=m*sz∧0<m∧0<sz)
  (hlim:m≤1000∧by_≤4096) (hib:z0c i b=false)
  (hgone:σ.hp (nk (some dn) 0)= .gone) (hKb:z0c (nk (some dn) 0) b=false) (hns:z0c (nk (some dn) 0) ns=true) (ho:z0c (nk (some dn) 0) own=true)
  (hk:z0a P E ops ns bs l ((σ.seth (nk (some dn) 0) (.fr [] xs)).put (some dn) (.c (.own (nk (some dn) 0) sz 0 m))) K):z0a P E ops ns ((b,own)::bs) (o::l) σ K:=by
 generalize hKK:nk (some dn) 0=KK at*
 have eu:∀ hp:Nat→Blk,z1a hp [(KK,.fr [] xs)]=fun i=>if i=KK then .fr [] xs else hp i:=fun hp=>z5U hp _ _
 refine z3r (x:= .c (.own KK sz 0 m)) (u:= [(KK,.fr [] xs)]) ?_ (zcV ho) ?_
 ·intro τ hl β F a w hS hnn K Q hK
  rw[show Region.wanted o (yielded ops a.tmps)=true by simp[Region.wanted,hg],if_pos rfl]
  have hgτ:τ.hp KK= .gone:=by rw[hl.hp _ hKb]; exact hgone
  have hnb:E.nb≤KK:=by
   have:=hS.nbl
   rw[←hKK]
   simp only[nk,Option.getD_some,Nat.mul_zero,Nat.add_zero]
   omega
  have h1:=hnn dn hd (by rw[hKK]; exact hns)
  rw[hKK] at h1
  have hiτ:τ.hp i= .cells xs:=by rw[hl.hp _ hib]; exact hbi
  have e1:ox τ x=ox σ x:=hl.ox x (by rw[hop]; simp[Op.operands,Call.operands,ha,hc])
  have e2:ox τ y=ox σ y:=hl.ox y (by rw[hop]; simp[Op.operands,Call.operands,ha,hc])
  have hcut:SRb E β F ⟨τ.tm,fgt b σ.hp⟩ a w:=hS.cut hl
  have hv1:=oxR hcut x
  rw[show ox ⟨τ.tm,fgt b σ.hp⟩ x=ox ⟨σ.tm,fgt b σ.hp⟩ x from e1,hx] at hv1
  have hv1:=(hv1 hp.left).val
  have hv2:=oxR hcut y
  rw[show ox ⟨τ.tm,fgt b σ.hp⟩ y=ox ⟨σ.tm,fgt b σ.hp⟩ y from e2,hy] at hv2
  have hv2:=hv2 hp.right
  have hca:c.args= #[x,y]:=by apply Array.toList_inj.1; simpa using ha
  have hct:c.argTypes= #[t,t]:=by apply Array.toList_inj.1; simpa using hty
  generalize he2:a.eval y=v2 at hv2
  dsimp only at hv2
  cases hv2 with | c hv2=>cases hv2 with | own _ _ _ _ ad cap2 hlc2 hmx2 hh2=>
  obtain⟨n2,n4,n5⟩:=hlen
  obtain⟨l1,l2⟩:=hlim
  obtain⟨ht,ii,z,hi,hz,hsz,hby,hzs⟩:=hE
  have hB2:=hS.hp i
  rw[hiτ] at hB2
  obtain⟨g2,cur2,hgi,hrow2,hxs,hxc⟩:=hB2
  obtain⟨g2',hg2',rfl,hcap2⟩:∃ g',β i=some g'∧ad=some ⟨g',0,none⟩∧z0X w g' (.sz (0+cap2*sz)):=hh2.resolve_left (by omega)
  rw[hgi] at hg2'
  obtain rfl:=Option.some.inj hg2'
  have hbytes:(0+m)*by_≤140737488355328:=by
   have:(0+m)*by_≤1000*4096:=Nat.mul_le_mul (by omega) l2
   omega
  have h63:0+m≤maxLen:=by simp only[maxLen]; omega
  obtain⟨news,w1,w2⟩:∃ news:List Value,news=cur2.toList.take (m*sz)∧news.length=m*sz:=⟨_,rfl,by simp; omega⟩
  have hn3:∀(p:Nat) (u:Value),news[p]? =some u→cur2[p]? =some u:=fun p u hu=>by
   rw[w1,List.getElem?_take] at hu
   split at hu
   ·simpa using hu
   ·cases hu
  have hnR:∀(p:Nat) (x:Cell) (u:Value),xs[p]? =some x→news[p]? =some u→CellR β F w x u:=fun p x u h1 h2=>hxc p x u h1 (hn3 p u h2)
  have hone:∀ v,v ∈ news→v.oneCell'=true:=fun v hv=>by
   obtain⟨p,hp1,rfl⟩:=List.mem_iff_getElem.1 hv
   exact(hnR p xs[p] _ (by simp[show p<xs.length by omega]) (by simp[hp1])).one
  obtain⟨v',w',hrun,hown,hgb,_⟩:=run_append_own (P:=P) w w.heap.size t o.type e ii z sz by_ ht hi hz hsz hby hzs n5 (.slice none 0 0) 0 [] (World.ownsRow_nil w _ e sz) ⟨g2,0,none⟩ m cap2 news w2 (fun p u hu=>by rw[z0D,Nat.zero_add,hrow2.cell]; exact hn3 p u hu) hone h63 hbytes (Nat.le_refl _)
  unfold Oper.wp
  rw[z0K hop hc hca hct (by rw[hv1,he2]; exact hrun)]
  obtain⟨hsz',hown⟩:=hown
  rcases hown with ⟨_,h0⟩ |⟨g',cap',cur',rfl,hg1,hg2,hn1,hn2,hn3',hn4⟩
  ·omega
  ·have hlt':g'<w'.heap.size:=(Array.getElem?_eq_some_iff.1 hg2).1
   have hrow':Row w' g' cur':=⟨e,(0,0),hg2,.inl rfl⟩
   rw[List.nil_append] at hn4
   have hlc:news.length≤cur'.size:=by
    rw[←hn4,List.length_take]
    simp only[Array.length_toList]
    omega
   have hgb:w.grownBy w' none:=hgb
   have hbw:∀ b,b<w.heap.size→w'.heap[b]? =w.heap[b]?:=fun b hb=>hgb.block b hb (by simp)
   have hβ:∀ i g,β i=some g→(if i=KK then some g' else β i)=some g:=by
    intro i g hi
    rw[if_neg (by intro e; subst e; rw[h1] at hi; cases hi)]; exact hi
   have h2:=hS.grow (g:=g') h1 hnb hgτ hgb hg1 hlt' (.fr [] xs) (z0p.to_fr (us:= []) ⟨g',cur',by simp,hrow',by show xs.length≤_; omega,fun p x u hx hu=>by
    have hx:xs[p]? =some x:=hx
    have hp2:=(List.getElem?_eq_some_iff.1 hx).1
    have hu2:news[p]? =some u:=by
     rw[←hn4,List.getElem?_take,if_pos (by rw[Nat.zero_add]; omega)]
     simpa using hu
    exact(hnR p x u hx hu2).mono hβ (fun b hb=>⟨hb,hbw b (hS.fr b hb).1⟩) (fun gq nq hq=>hq.same (hbw gq hq.lt))⟩)
   rw[Nat.zero_add] at hn1 ⊢
   refine hK _ _ (fun i=>if i=KK then some g' else β i) F ?_ fun k hk=>?_
   ·rw[hd,eu]
    exact h2.put (.c (.own _ _ _ _ _ _ (by omega) hn2 (.inr ⟨g',by simp,rfl,cur',hrow',by rw[hn3']; omega⟩))) (z0x hE0)
   ·refine if_neg fun e=>?_
    rw[e] at hk
    simp[z0N] at hk
 ·rw[eu,hd]
  exact hk
theorem zpM {t:TypeId} {d0 j sz i k:Nat} {us:List Value} {cs cs':List Cell} (hop:o.op= .load t (.tmp d0)) (hg:o.guard=none) (hd:z0e E.n o.dst=true) (ht:σ.tm d0= .c (.pel j sz i k)) (hj:σ.hp j= .fr us cs) (hu:us.length=i*sz)
  (htg:z2w P t=true) (hi:(P.info? t).isSome=true) (hle:k+P.cellsOf t≤cs.length) (hcs:(cs.drop k).take (P.cellsOf t)=cs') (hk:WL P E ops Q rest (σ.put o.dst (.agg cs'))):WL P E ops Q (o::rest) σ:=by
 subst hcs
 refine z4l hg _ (fun a w hS=>?_) hk
 obtain⟨β,F,hS⟩:=hS
 have hB:=hS.hp j
 rw[hj] at hB
 obtain⟨g,cur,e1,e2,⟨e3,e5⟩,e4⟩:=hB
 have h2:SRb E β F (σ.seth j (.cells (rvL us++cs))) a w:=hS.setBlk (by rw[hj]; intro h; cases h) ⟨g,cur,e1,e2,by rw[List.length_append,z3d]; exact e3,fun i x u hx hu=>by
  rw[List.getElem?_append] at hx
  split at hx
  ·obtain⟨v,hv,rfl⟩:=zeq hx
   obtain⟨h1,h2⟩:=e5 i v hv
   rw[h1] at hu
   obtain rfl:=Option.some.inj hu
   exact .lf (.v _ h2)
  ·rename_i h1
   rw[z3d] at hx h1
   exact e4 _ x u hx (by rw[show us.length+(i -us.length)=i by omega]; exact hu)⟩
 have h3:SRb E β F ((σ.seth j (.cells (rvL us++cs))).put (some d0) (.c (.ptr j (i*sz+k)))) a w:=by
  refine⟨fun x=>?_,h2.sz,h2.df,h2.hp,h2.inj,h2.own,h2.lt,h2.fr,h2.keep,h2.bb,h2.nbl⟩
  by_cases e:x=d0
  ·subst e
   have:=h2.tm x
   simp only[St.seth,ht] at this
   simp only[St.put,St.set,if_true]
   generalize a.tmps.getD x undef=v at this
   cases this with | c h=>cases h with | pel _ _ _ _ g hg=>exact .c (.ptr _ _ _ hg)
  ·have:=h2.tm x
   simpa[St.put,St.set,e] using this
 have hox:ox ((σ.seth j (.cells (rvL us++cs))).put (some d0) (.c (.ptr j (i*sz+k)))) (.tmp d0)=([],.c (.ptr j (i*sz+k))):=by simp[ox,ev,St.put,St.set,str]
 have hhp:((σ.seth j (.cells (rvL us++cs))).put (some d0) (.c (.ptr j (i*sz+k)))).hp j= .cells (rvL us++cs):=by simp[St.put,St.set,St.seth]
 have hdr:((rvL us++cs).drop (i*sz+k))=cs.drop k:=by
  rw[←List.drop_drop,List.drop_left' (by rw[z3d]; exact hu)]
 have hpo:z1M true P ((σ.seth j (.cells (rvL us++cs))).put (some d0) (.c (.ptr j (i*sz+k)))) o=some ([i*sz+k+P.cellsOf t≤(rvL us++cs).length,(P.info? t).isSome=true],.agg ((cs.drop k).take (P.cellsOf t))):=by
  simp only[z1M,hop,hox,z9v,hhp,htg,hdr,List.nil_append]
 obtain⟨z,h4,h5⟩:=z4s hpo ⟨by rw[List.length_append,z3d]; omega,hi⟩ h3
 exact⟨z,w,h4,β,F,hS.put h5 (z0x hd)⟩
section
variable {ns b own:List Nat} {bs:List (List Nat×List Nat)} {l:List Oper} {K:St→Prop}
theorem zpN {t e:TypeId} {sz by_ n s dn:Nat} {parts:Array (Nat×Operand)} {ps:List Prop} {out:List Cell} (hk:z0a P E ops ns bs l ((σ.seth (nk (some dn) 0) (.cells out)).put (some dn) (.c (.own (nk (some dn) 0) s 0 n))) K) (hop:o.op= .buildSlice t n parts:=by exact rfl) (hg:o.guard=none:=by exact rfl) (hd:o.dst=some dn:=by exact rfl) (hd0:z0e E.n (some dn)=true:=by rw[hn]; exact rfl)
  (hgone:σ.hp (nk (some dn) 0)= .gone:=by exact rfl) (hKb:z0c (nk (some dn) 0) b=false:=by exact rfl) (hns:z0c (nk (some dn) 0) ns=true:=by exact rfl) (ho:z0c (nk (some dn) 0) own=true:=by exact rfl)
  (hE:Elt P t e sz by_:=by exact z0n rfl rfl rfl) (hs:z2h sz some=some s:=by exact rfl) (hf:z1A (fun i=>some (i*s,s)) (List.replicate (n*s) .un) (parts.toList.map fun(i,x)=>(i,ox ⟨σ.tm,fgt b σ.hp⟩ x))=some (ps,out):=by exact rfl) (hnn:n*s≤10000∧n≤10000:=by decide) (hl:out.length=n*s:=by exact rfl)
  (hz:z01 P e:=by first |(simp; done) | fail) (hp:z03 ps:=by exact vcs):z0a P E ops ns ((b,own)::bs) (o::l) σ K:=by
 obtain rfl:=z1u hs
 exact zrJ hop hg hd hd0 hE hz hf hp hnn hl hgone hKb hns ho hk
theorem zxJ {t e:TypeId} {sz by_ s dn:Nat} {c:Call} {x y:Operand} {px qs:List Prop} {j i k m:Nat} {us:List Value} {cs xs:List Cell} (hk:z0a P E ops ns bs l (((σ.seth j .gone).seth (nk (some dn) 0) (.fr us (cs++xs))).put (some dn) (.c (.own (nk (some dn) 0) s 0 (k+m)))) K)
  (hop:o.op= .call c:=by exact rfl) (hc:c.callee= .builtin .append:=by exact rfl) (ha:c.args.toList= [x,y]:=by exact rfl) (hty:c.argTypes.toList= [t,t]:=by exact rfl) (hg:o.guard=none:=by exact rfl) (hd:o.dst=some dn:=by exact rfl) (hd0:z0e E.n (some dn)=true:=by rw[hn]; exact rfl)
  (hE:Elt P t e sz by_:=by exact z0n rfl rfl rfl) (hs:z2h sz some=some s:=by exact rfl) (hx:ox ⟨σ.tm,fgt b σ.hp⟩ x=(px,.c (.own j s 0 k)):=by exact rfl) (hb:σ.hp j= .fr us cs:=by exact rfl) (hy:ox ⟨σ.tm,fgt b σ.hp⟩ y=(qs,.c (.own i s 0 m)):=by exact rfl) (hbi:σ.hp i= .cells xs:=by exact rfl) (hp:z03 (px++qs):=by first | trivial |(simp; done)) (hlen:us.length+cs.length=k*s∧xs.length=m*s∧0<k∧0<m∧0<s:=by exact⟨by first | omega |(simp; omega),rfl,by omega,by decide,by decide⟩) (hlim:k+m≤1000∧by_≤4096:=by exact⟨by omega,by decide⟩)
  (hjb:z0c j b=false:=by exact rfl) (hib:z0c i b=false:=by exact rfl) (hjo:z0c j own=true:=by exact rfl) (hjK:Nat.beq j (nk (some dn) 0)=false:=by exact rfl)
  (hgone:σ.hp (nk (some dn) 0)= .gone:=by exact rfl) (hKb:z0c (nk (some dn) 0) b=false:=by exact rfl) (hns:z0c (nk (some dn) 0) ns=true:=by exact rfl) (ho:z0c (nk (some dn) 0) own=true:=by exact rfl):z0a P E ops ns ((b,own)::bs) (o::l) σ K:=by
 obtain rfl:=z1u hs
 exact zrK hop hc ha hty hg hd hd0 hE hx hb hy hbi hp hlen hlim hjb hib hjo hjK hgone hKb hns ho hk
theorem zxK {t e:TypeId} {sz by_ s dn:Nat} {c:Call} {x y:Operand} {px qs:List Prop} {i m:Nat} {xs:List Cell} (hk:z0a P E ops ns bs l ((σ.seth (nk (some dn) 0) (.fr [] xs)).put (some dn) (.c (.own (nk (some dn) 0) s 0 m))) K)
  (hop:o.op= .call c:=by exact rfl) (hc:c.callee= .builtin .append:=by exact rfl) (ha:c.args.toList= [x,y]:=by exact rfl) (hty:c.argTypes.toList= [t,t]:=by exact rfl) (hg:o.guard=none:=by exact rfl) (hd:o.dst=some dn:=by exact rfl) (hd0:z0e E.n (some dn)=true:=by rw[hn]; exact rfl)
  (hE:Elt P t e sz by_:=by exact z0n rfl rfl rfl) (hs:z2h sz some=some s:=by exact rfl) (hx:ox ⟨σ.tm,fgt b σ.hp⟩ x=(px,lv (.slice none 0 0)):=by exact rfl) (hy:ox ⟨σ.tm,fgt b σ.hp⟩ y=(qs,.c (.own i s 0 m)):=by exact rfl) (hbi:σ.hp i= .cells xs:=by exact rfl) (hp:z03 (px++qs):=by first | trivial |(simp; done))
  (hlen:xs.length=m*s∧0<m∧0<s:=by exact⟨rfl,by decide,by decide⟩) (hlim:m≤1000∧by_≤4096:=by exact⟨by decide,by decide⟩) (hib:z0c i b=false:=by exact rfl)
  (hgone:σ.hp (nk (some dn) 0)= .gone:=by exact rfl) (hKb:z0c (nk (some dn) 0) b=false:=by exact rfl) (hns:z0c (nk (some dn) 0) ns=true:=by exact rfl) (ho:z0c (nk (some dn) 0) own=true:=by exact rfl):z0a P E ops ns ((b,own)::bs) (o::l) σ K:=by
 obtain rfl:=z1u hs
 exact zrL hop hc ha hty hg hd hd0 hE hx hy hbi hp hlen hlim hib hgone hKb hns ho hk
theorem duF {id:Nat} {l:List Oper} (ns:List Nat) (ws:List (Nat×Nat)) (h:z0a P E l.toArray ns bs l (σ.kills ns) (fun τ=>WL P E l.toArray Q [] τ)) (hm:P.follows .mixedOrders=true:=by kernel_rfl)
 (hbs:z45 (z6e l.toArray ws 0 l) some=some bs:=by exact rfl) (hB:z6f l.toArray l ns ws=true:=by kernel_rfl) (h64:ns.all (Nat.ble 64)=true:=by exact rfl):W P E (.region id l.toArray true) Q σ:=z6F ns ws hm hB hbs h64 h
end
end
section
variable {P:Program} {E:Env} {ops:Array Oper} {Q:Exit→Act→World→Prop} {rest:List Oper} {o:Oper} {σ:St}
theorem cm1 {c:Call} {dd:Option Nat} {fo:Operand} {f:FuncId} {first cap:List Cell} {pf:List Prop} {xs:List Av} {bor:List Blk} {res:Av} {bor' news:List Blk} {bs:List Nat}
  (hk:WL P E ops Q rest ((z0u (σ.kills (z07 dd news.length)) bs dd bor' news).put dd (res.ren (z0B bs dd news.length))))
  (hop:o.op= .call c:=by exact rfl) (hg:o.guard=none:=by exact rfl) (hdf:z0j o.dst some=some dd:=by exact rfl) (hd:z0e E.n dd=true:=by rw[hn]; exact rfl) (hcv:c.callee= .value fo:=by exact rfl) (hf0:ox σ fo=(pf,.c (.fn (.func f) first cap)):=by exact rfl)
  (hF:CtM P f xs bor res bor' news:=by assumption) (hfo:ox (σ.kills (z07 dd news.length)) fo=(pf,.c (.fn (.func f) first cap)):=by exact rfl)
  (hbs:z5B (ziJ (σ.kills (z07 dd news.length)).hp (first.map Av.c++(oxs (σ.kills (z07 dd news.length)) c.args.toList).2++cap.map Av.c) xs bor) some=some bs:=by exact rfl)
  (h1:first.map Av.c++(oxs (σ.kills (z07 dd news.length)) c.args.toList).2++cap.map Av.c=xs.map (Av.ren (z0B bs dd news.length)):=by exact rfl)
  (h2:z03 ((z0b 0 bor).map fun p=>(σ.kills (z07 dd news.length)).hp (bs.getD p.1 0)=p.2.ren (z0B bs dd news.length)):=by first | trivial | exact rfl | exact⟨rfl,rfl⟩ | exact⟨rfl,rfl,rfl⟩ | exact⟨rfl,rfl,rfl,rfl⟩)
  (h3:z03 ((z0b 0 bor).map fun p=>p.2≠ .gone):=by first | trivial |(simp[z0b]; done) | fail)
  (h4:(xs.all (Av.ok bs.length)&&bor.all (Blk.ok bs.length)&&res.ok (bs.length+news.length)&&bor'.all (Blk.ok (bs.length+news.length))&&news.all (Blk.ok (bs.length+news.length))&&Nat.beq bs.length bor.length&&decide (bs++z07 dd news.length).Nodup)=true:=by exact rfl)
  (hp:z03 (pf++(oxs (σ.kills (z07 dd news.length)) c.args.toList).1):=by exact vcs):WL P E ops Q (o::rest) σ:=by
 simp only[z0t,Option.some.injEq] at hdf
 subst hdf
 exact z2D bs hF hop hg hd hcv hfo hp ⟨h1,h2,h3,h4⟩ hk
theorem rtM {fn:Func} {ps:List Prop} {r res:Av} {bor' news:List Blk} {nb:Nat} (ks:List Nat) (hr:z5d (z4t P σ fn.results.toList)=some (ps,r):=by exact rfl) (hp:z03 ps:=by exact vcs)
  (f1:r=res.ren (rho nb ks):=by exact rfl) (f2:z03 ((z0b 0 bor').map fun p=>p.2= .gone∨σ.hp p.1=p.2.ren (rho nb ks)):=by(repeat' (first | exact trivial | exact .inl rfl | exact .inr rfl | refine⟨?_,?_⟩))) (f3:z03 ((z0b nb news).map fun p=>σ.hp (rho nb ks p.1)=p.2.ren (rho nb ks)):=by(repeat' (first | exact trivial | exact rfl | refine⟨?_,?_⟩)))
  (f4:(res.ok (nb+news.length)&&bor'.all (Blk.ok (nb+news.length))&&news.all (Blk.ok (nb+news.length))&&news.all (fun b=>match b with | .gone=>false | _=>true)&&Nat.beq ks.length news.length&&ks.all (fun k=>Nat.ble 64 k||(Nat.blt k nb&&(match bor'[k]? with | some .gone=>true | _=>false)))&&decide ks.Nodup)=true:=by exact rfl)
  (hnb:E.nb=nb:=by exact hb) (hlb:bor'.length=nb:=by exact rfl):
  N E (bodyPost P fn fun e w'=>∃ v β' F',e= .returned v∧AvR β' F' w' res v∧(∀ i b,bor'[i]? =some b→z0p β' F' w' i b)∧(∀ i b,news[i]? =some b→z0p β' F' w' (nb+i) b)∧OutM E.w0 E.M E.F0 nb news.length (z21 bor') E.β0 β' F' w') .ret σ:=
 zpH ks (z5X hr) hp ⟨f1,f2,f3,f4⟩ hnb hlb
theorem rtN {fn:Func} {ps:List Prop} {r res:Av} {bor' news:List Blk} {nb:Nat} (ks:List Nat) (hr:z5d (z4t P σ fn.results.toList)=some (ps,r):=by exact rfl) (hp:z03 ps:=by exact vcs)
  (f1:r=res.ren (rho nb ks):=by exact rfl) (f2:z03 ((z0b 0 bor').map fun p=>p.2= .gone∨σ.hp p.1=p.2.ren (rho nb ks)):=by(repeat' (first | exact trivial | exact .inl rfl | exact .inr rfl | refine⟨?_,?_⟩))) (f3:z03 ((z0b nb news).map fun p=>σ.hp (rho nb ks p.1)=p.2.ren (rho nb ks)):=by(repeat' (first | exact trivial | exact rfl | refine⟨?_,?_⟩)))
  (f4:(res.ok (nb+news.length)&&bor'.all (Blk.ok (nb+news.length))&&news.all (Blk.ok (nb+news.length))&&news.all (fun b=>match b with | .gone=>false | _=>true)&&Nat.beq ks.length news.length&&ks.all (fun k=>Nat.ble 64 k||(Nat.blt k nb&&(match bor'[k]? with | some .gone=>true | _=>false)))&&decide ks.Nodup)=true:=by exact rfl)
  (hnb:E.nb=nb:=by exact hb) (hlb:bor'.length=nb:=by exact rfl):
  N E (bodyPost P fn fun e w'=>∃ v β' F',e= .returned v∧AvR β' F' w' res v∧(∀ i b,bor'[i]? =some b→z0p β' F' w' i b)∧(∀ i b,news[i]? =some b→z0p β' F' w' (nb+i) b)∧OutM E.w0 E.M E.F0 nb news.length (z21 bor') E.β0 β' F' w') .normal σ:=
 z5Z ks (z5X hr) hp ⟨f1,f2,f3,f4⟩ hnb hlb
theorem z1w {cl:Call} {fo:Operand} {f:FuncId} {first cap:List Cell} {pf:List Prop} {xs:List Av} {res:Av} {nn:Nat} {bor bor' news:Option Addr→Nat→List Blk} {l:List (Nat×Av)} {hs:List (Nat×Blk)} {cs:List Cell} {cs2:Option Addr→Nat→List Cell} {j sz off len:Nat} (bs:List Nat) (k i:Nat)
  (hF:∀(a:Option Addr) (c:Nat),CtM P f xs (bor a c) res (bor' a c) (news a c))
  (hop:o.op= .call cl) (hg:o.guard=none) (hd:z0e E.n o.dst=true) (hcv:cl.callee= .value fo) (hnn:∀ a c,(news a c).length=nn)
  (hk0:(σ.kills (z07 o.dst nn)).hp k= .cells cs) (hi:cs[i]? =some (.own j sz off len))
  (hfo:∀ a c,ox ((σ.kills (z07 o.dst nn)).seth k (.cells (cs.set i (rvC (.slice a len c))))) fo=(pf,.c (.fn (.func f) first cap)))
  (hp:∀ a c,z03 (pf++(oxs ((σ.kills (z07 o.dst nn)).seth k (.cells (cs.set i (rvC (.slice a len c))))) cl.args.toList).1))
  (hC:∀ a c,CallOk ((σ.kills (z07 o.dst nn)).seth k (.cells (cs.set i (rvC (.slice a len c))))) (first.map Av.c++(oxs ((σ.kills (z07 o.dst nn)).seth k (.cells (cs.set i (rvC (.slice a len c))))) cl.args.toList).2++cap.map Av.c) xs (bor a c) res (bor' a c) (news a c) bs o.dst)
  (hk2:∀ a c,(z0u ((σ.kills (z07 o.dst nn)).seth k (.cells (cs.set i (rvC (.slice a len c))))) bs o.dst (bor' a c) (news a c)).hp k= .cells (cs2 a c)) (hi2:∀ a c,(cs2 a c)[i]? =some (rvC (.slice a len c)))
  (hE:∀ a c,Eqs (((z0u ((σ.kills (z07 o.dst nn)).seth k (.cells (cs.set i (rvC (.slice a len c))))) bs o.dst (bor' a c) (news a c)).seth k (.cells ((cs2 a c).set i (.own j sz off len)))).put o.dst (res.ren (z0B bs o.dst nn))) l hs)
  (hk:WL P E ops Q rest (.of l hs)):WL P E ops Q (o::rest) σ:=
 zd0 (V:=Option Addr×Nat) (nn:=nn) (bor:=fun v=>bor v.1 v.2) (bor':=fun v=>bor' v.1 v.2) (news:=fun v=>news v.1 v.2) bs (fun(a,c)=>((σ.kills (z07 o.dst nn)).seth k (.cells (cs.set i (rvC (.slice a len c)))))) (fun(a,c)=>(z0u ((σ.kills (z07 o.dst nn)).seth k (.cells (cs.set i (rvC (.slice a len c))))) bs o.dst (bor' a c) (news a c)).seth k (.cells ((cs2 a c).set i (.own j sz off len))))
  (fun β F w v=>CellR β F w (.own j sz off len) (.slice v.1 len v.2)) hop hg hd hcv
  (fun β F a w h=>by
    obtain⟨v,h1,h2,h3⟩:=h.outS hk0 hi
    cases h2 with | own _ _ _ _ a' c hc hm hh=>exact⟨(a',c),.own _ _ _ _ _ _ hc hm hh,h3⟩) (fun β F w v h=>⟨hnn _ _,hF _ _⟩)
  (fun β F β' F' a w w' v h1 h2 h3=>h3.inS (hk2 _ _) (hi2 _ _) (h2 _ _ h1)) (fun v=>hfo _ _) (fun v=>hp _ _) (fun _ _ _ v _=>hC _ _) (fun _ _ _ v _=>hE _ _) hk
theorem z32 {c:Call} {fo:Operand} {f:FuncId} {first cap:List Cell} {pf:List Prop} {xs:List Av} {res:Av} {nn:Nat} {bor bor' news:List Value→List Blk} {l:List (Nat×Av)} {hs:List (Nat×Blk)} {us:List Value} {M:List Cell} (bs:List Nat) (k k2:Nat)
  (hF:∀ vs:List Value,vs.length=us.length+M.length→CtM P f xs (bor vs) res (bor' vs) (news vs))
  (hop:o.op= .call c) (hg:o.guard=none) (hd:z0e E.n o.dst=true) (hcv:c.callee= .value fo) (hnn:∀ v,(news v).length=nn)
  (hk0:(σ.kills (z07 o.dst nn)).hp k= .fr us M)
  (hfo:∀ vs,ox ((σ.kills (z07 o.dst nn)).seth k (.fr vs [])) fo=(pf,.c (.fn (.func f) first cap)))
  (hp:∀ vs,z03 (pf++(oxs ((σ.kills (z07 o.dst nn)).seth k (.fr vs [])) c.args.toList).1))
  (hC:∀ vs,CallOk ((σ.kills (z07 o.dst nn)).seth k (.fr vs [])) (first.map Av.c++(oxs ((σ.kills (z07 o.dst nn)).seth k (.fr vs [])) c.args.toList).2++cap.map Av.c) xs (bor vs) res (bor' vs) (news vs) bs o.dst)
  (hk2:∀ vs,(z0u ((σ.kills (z07 o.dst nn)).seth k (.fr vs [])) bs o.dst (bor' vs) (news vs)).hp k2= .fr vs [])
  (hE:∀ vs,Eqs (((z0u ((σ.kills (z07 o.dst nn)).seth k (.fr vs [])) bs o.dst (bor' vs) (news vs)).seth k2 (.fr us M)).put o.dst (res.ren (z0B bs o.dst nn))) l hs)
  (hk:WL P E ops Q rest (.of l hs)):WL P E ops Q (o::rest) σ:=
 zd0 (V:=List Value) (nn:=nn) (bor:=fun vs=>bor (us++vs)) (bor':=fun vs=>bor' (us++vs)) (news:=fun vs=>news (us++vs)) bs (fun vs=>(σ.kills (z07 o.dst nn)).seth k (.fr (us++vs) [])) (fun vs=>(z0u ((σ.kills (z07 o.dst nn)).seth k (.fr (us++vs) [])) bs o.dst (bor' (us++vs)) (news (us++vs))).seth k2 (.fr us M))
  (fun β F w vs=>vs.length=M.length∧∀(i:Nat) (x:Cell) (v:Value),M[i]? =some x→vs[i]? =some v→CellR β F w x v) hop hg hd hcv
  (fun β F a w h=>by obtain⟨vs,h1,h2,h3⟩:=h.outB hk0; exact⟨vs,⟨h1,h2⟩,h3⟩) (fun β F w vs h=>⟨hnn _,hF _ (by rw[List.length_append,h.1])⟩)
  (fun β F β' F' a w w' vs h1 h2 h3=>h3.inB (hk2 _) h1.1 fun i x v hx hv=>h2 x v (h1.2 i x v hx hv)) (fun vs=>hfo _) (fun vs=>hp _) (fun _ _ _ vs _=>hC _) (fun _ _ _ vs _=>hE _) hk
end
theorem zpO {E:Env} {Q:Exit→Act→World→Prop} {σ:St} {d:Leaf} {cs cs':List Cell} {m:Nat} {e:Exit} (j K:Nat) (h:N E Q e ((σ.kill j).seth K (.cells cs'))) (hj:σ.hp j= .row d:=by exact rfl) (hK:σ.hp K= .cells cs:=by exact rfl) (hne:Nat.beq K j=false:=by exact rfl) (hnb:E.nb=m:=by exact hb) (hjn:Nat.ble m j=true:=by exact rfl) (hc:cs.all (z8w j d)=true:=by exact rfl)
 (hf:z2U (cs.map (z7R j d)) some=some cs':=by exact rfl) (hp:z03 (z2N j d cs):=by first | trivial | exact rfl |(simp[z2N,z03,z0f]; done)):N E Q e σ:=fun a w hS=>h a w (SR.frzc j K hj hK hne hnb hjn hc hp hf hS)
section
variable {P:Program} {E:Env} {ops:Array Oper} {o:Oper} {σ:St}
theorem zrM {ns b own:List Nat} {bs:List (List Nat×List Nat)} {l:List Oper} {K:St→Prop} {c:Call} {fo:Operand} {f:FuncId} {first cap:List Cell} {pf:List Prop} {xs:List Av} {bor bor':List Blk} {news:List Blk} {res:Av} {nt dn:Nat} (ks:List Nat) (hn:E.n=nt) (hF:CtM P f xs bor res bor' news) (hop:o.op= .call c) (hg:o.guard=none) (hd:o.dst=some dn) (hE0:z0e nt o.dst=true)
  (hcv:c.callee= .value fo) (hfo:ox ⟨σ.tm,fgt b σ.hp⟩ fo=(pf,.c (.fn (.func f) first cap))) (hC:CallOk ⟨σ.tm,fgt b σ.hp⟩ (first.map Av.c++(oxs ⟨σ.tm,fgt b σ.hp⟩ c.args.toList).2++cap.map Av.c) xs bor res bor' news ks (some dn))
  (hp:z03 (pf++(oxs ⟨σ.tm,fgt b σ.hp⟩ c.args.toList).1)) (hlen:ks.length=bor'.length) (hns:news.length=0∨(news.length=1∧z0c (nk (some dn) 0) ns=true)) (hown:(ks++z07 (some dn) news.length).all (fun k=>z0c k own)=true)
  (hk:z0a P E ops ns bs l ((z0u σ ks (some dn) bor' news).put (some dn) (res.ren (z0B ks (some dn) news.length))) K):z0a P E ops ns ((b,own)::bs) (o::l) σ K:=by
 have hnd:(ks++z07 (some dn) news.length).Nodup:=by
  have:=hC.cok
  simp only[Bool.and_eq_true] at this
  simpa using this.2
 obtain⟨u,hu⟩:∃ u,z4v ks (bor'.map (Blk.ren (z0B ks (some dn) news.length)))++z4v (z07 (some dn) news.length) (news.map (Blk.ren (z0B ks (some dn) news.length)))=u:=⟨_,rfl⟩
 have hfst:u.map (·.1)=ks++z07 (some dn) news.length:=by
  rw[←hu,List.map_append,z30 _ _ (by simpa using hlen),z30 _ _ (by simp[zke])]
 have eaf:∀ τ:St,z0u τ ks (some dn) bor' news=⟨τ.tm,z1a τ.hp u⟩:=fun τ=>by
  unfold z0u
  rw[z9g,hu]
  exact z9f u τ (by rw[hfst]; exact hnd)
 rw[eaf] at hk
 refine z3r (x:=res.ren (z0B ks (some dn) news.length)) (u:=u) ?_ (fun j hj=>?_) (by rw[hd]; exact hk)
 ·intro τ hl β F a w hS hnn KK Q hK
  rw[show Region.wanted o (yielded ops a.tmps)=true by simp[Region.wanted,hg],if_pos rfl]
  have hcut:SRb E β F ⟨τ.tm,fgt b σ.hp⟩ a w:=hS.cut hl
  have x1:ox ⟨τ.tm,fgt b σ.hp⟩ fo=ox ⟨σ.tm,fgt b σ.hp⟩ fo:=hl.ox fo (by rw[hop]; simp[Op.operands,Call.operands,hcv])
  have x2:oxs ⟨τ.tm,fgt b σ.hp⟩ c.args.toList=oxs ⟨σ.tm,fgt b σ.hp⟩ c.args.toList:=z4g (o:=o) (τ:=⟨τ.tm,fgt b σ.hp⟩) (σ:=⟨σ.tm,fgt b σ.hp⟩) (fun y hy=>hl.ox y hy) _ fun y hy=>by
   rw[hop]; simp only[Op.operands,Call.operands]; simp at hy ⊢; first | exact .inr hy | exact .inl hy | simp[hy]
  have hfv:=oxR hcut fo
  rw[x1,hfo] at hfv
  have hfv:=hfv hp.left
  generalize hv:a.eval fo=fv at hfv
  cases hfv with | c hfv=>cases hfv with | fn _ _ _ f1 c1 n1 n2 r1 r2=>
  obtain⟨l1,l2⟩:=z59 hcut c.args.toList (by rw[x2]; exact hp.right)
  rw[x2] at l1 l2
  have hrun:(execOp a.eval o).run P w= .ok (.enter f (f1++c.args.map a.eval++c1)) w:=by
   simp only[execOp,hop,resolve,hcv,hv,Deferred.ofValue,Sem.run_bind,Sem.run_pure,Result.andThen_ok,invoke]
   exact z22 hF.2.1
  unfold Oper.wp
  rw[hrun,Oper.upon_enter]
  have hbor:∀ i blk,bor[i]? =some blk→τ.hp (ks.getD i 0)=blk.ren (z0B ks (some dn) news.length):=fun i blk hi=>by
   have h1:=z1U hC.cbor _ (z2r bor 0 i blk hi)
   have h2:=z1U hC.cgone _ (z2r bor 0 i blk hi)
   have h1:fgt b σ.hp (ks.getD i 0)=blk.ren (z0B ks (some dn) news.length):=by simpa using h1
   have h2:blk≠ .gone:=by simpa using h2
   rw[z9N] at h1
   cases hb:z0c (ks.getD i 0) b with
   | true=>
     rw[hb] at h1
     exact absurd h1.symm (Blk.ren_ne h2)
   | false=>
     rw[hb] at h1
     rw[hl.hp _ hb]
     exact h1
  have hC2:CallOk τ (first.map Av.c++(oxs ⟨σ.tm,fgt b σ.hp⟩ c.args.toList).2++cap.map Av.c) xs bor res bor' news ks (some dn):=⟨hC.cargs,z9d fun p hp=>by
   obtain⟨i,blk⟩:=p
   obtain⟨k,hk1,hk2⟩:=z85 bor 0 _ hp
   dsimp only at hk1 ⊢
   have:=hbor k blk hk2
   rw[hk1,Nat.zero_add]
   exact this,hC.cgone,hC.cok⟩
  have hcore:=z5a (σ:=τ) (bs:=ks) (d:=some dn) (vs:=(f1++c.args.map a.eval++c1).toList) hF hS (fun i=>by
   rcases hns with h0 |⟨h0,h1⟩
   ·exact .inr (by omega)
   ·rcases Nat.lt_or_ge i 1 with h | h
    ·obtain rfl:i=0:=by omega
     exact .inl (hnn dn hd h1)
    ·exact .inr (by omega)) hC2 (by simp[n1,n2,l1]) (fun i y v hy hv=>by
   simp only[Array.toList_append,List.append_assoc] at hv
   rw[List.append_assoc] at hy
   rcases Nat.lt_or_ge i first.length with h | h
   ·rw[List.getElem?_append_left (by simpa using h)] at hy
    rw[List.getElem?_append_left (by simp[n1]; exact h)] at hv
    rw[List.getElem?_map,Option.map_eq_some_iff] at hy
    obtain⟨x,hx,rfl⟩:=hy
    exact .c (r1 i x v hx (by simpa using hv))
   ·rw[List.getElem?_append_right (by simpa using h)] at hy
    rw[List.getElem?_append_right (by simp[n1]; exact h)] at hv
    simp only[List.length_map,Array.length_toList,n1] at hy hv
    rcases Nat.lt_or_ge (i -first.length) c.args.toList.length with h' | h'
    ·rw[List.getElem?_append_left (by rw[l1]; exact h')] at hy
     rw[List.getElem?_append_left (by simpa using h')] at hv
     exact l2 _ y v hy (by simpa using hv)
    ·rw[List.getElem?_append_right (by rw[l1]; exact h')] at hy
     rw[List.getElem?_append_right (by simpa using h')] at hv
     rw[List.getElem?_map,Option.map_eq_some_iff] at hy
     obtain⟨x,hx,rfl⟩:=hy
     refine .c (r2 _ x v hx ?_)
     simp only[l1] at hx
     simpa[l1] using hv)
  rw[Array.toArray_toList] at hcore
  refine hcore.mono fun e w' hq=>?_
  obtain⟨v,rfl,β',F',hv',_,hβ',hS'⟩:=hq
  rw[eaf] at hS'
  refine hK _ _ β' F' ?_ fun k hk=>hβ' k fun hm=>z9e hk (by rw[hfst]; exact List.mem_append_right _ hm)
  rw[hd]
  exact hS'.put hv' (z0x (by rw[hn,←hd]; exact hE0))
 ·have hm:j ∈ ks++z07 (some dn) news.length:=by
   rw[←hfst]
   exact Classical.not_not.1 fun h=>hj (z8E h)
  exact List.all_eq_true.1 hown j hm
theorem z9i {ns b own:List Nat} {bs:List (List Nat×List Nat)} {l:List Oper} {K:St→Prop} {c:Call} {fo:Operand} {f:FuncId} {first cap:List Cell} {pf:List Prop} {xs:List Av} {bor bor':List Blk} {news:List Blk} {res:Av} {nt dn:Nat} (ks:List Nat) (hn:E.n=nt) (hF:CtM P f xs bor res bor' news)
  (hk:z0a P E ops ns bs l ((z0u σ ks (some dn) bor' news).put (some dn) (res.ren (z0B ks (some dn) news.length))) K) (hop:o.op= .call c:=by exact rfl) (hg:o.guard=none:=by exact rfl) (hd:o.dst=some dn:=by exact rfl) (hE0:z0e nt o.dst=true:=by exact rfl)
  (hcv:c.callee= .value fo:=by exact rfl) (hfo:ox ⟨σ.tm,fgt b σ.hp⟩ fo=(pf,.c (.fn (.func f) first cap)):=by exact rfl)
  (h1:first.map Av.c++(oxs ⟨σ.tm,fgt b σ.hp⟩ c.args.toList).2++cap.map Av.c=xs.map (Av.ren (z0B ks (some dn) news.length)):=by exact rfl)
  (h2:z03 ((z0b 0 bor).map fun p=>(St.mk σ.tm (fgt b σ.hp)).hp (ks.getD p.1 0)=p.2.ren (z0B ks (some dn) news.length)):=by first | trivial | exact rfl | exact⟨rfl,rfl⟩ | exact⟨rfl,rfl,rfl⟩ | exact⟨rfl,rfl,rfl,rfl⟩)
  (h3:z03 ((z0b 0 bor).map fun p=>p.2≠ .gone):=by first | trivial |(simp[z0b]; done) | fail)
  (h4:(xs.all (Av.ok ks.length)&&bor.all (Blk.ok ks.length)&&res.ok (ks.length+news.length)&&bor'.all (Blk.ok (ks.length+news.length))&&news.all (Blk.ok (ks.length+news.length))&&Nat.beq ks.length bor.length&&decide (ks++z07 (some dn) news.length).Nodup)=true:=by exact rfl)
  (hp:z03 (pf++(oxs ⟨σ.tm,fgt b σ.hp⟩ c.args.toList).1):=by exact vcs) (hlen:ks.length=bor'.length:=by exact rfl) (hns:news.length=0∨(news.length=1∧z0c (nk (some dn) 0) ns=true):=by first | exact .inl rfl | exact .inr ⟨rfl,rfl⟩) (hown:(ks++z07 (some dn) news.length).all (fun k=>z0c k own)=true:=by exact rfl):z0a P E ops ns ((b,own)::bs) (o::l) σ K:=
 zrM ks hn hF hop hg hd hE0 hcv hfo ⟨h1,h2,h3,h4⟩ hp hlen hns hown hk
end
end Go.Sx

/-
  The layer: rows of a region of open order's own, made by literals and appends, appended to again, at the end data. No condition.
-/
import Derived.Test.YtaagjnlkinojcaaGreatSxU
import Derived.Test.YtaagjnlkinojcaaGreatSxP
namespace Go.Sx
open Go
set_option linter.unusedVariables false
set_option linter.unusedSimpArgs false
section
variable {P:Program} {E:Env} {ops:Array Oper} {Q:Exit→Act→World→Prop} {rest:List Oper} {o:Oper} {σ:St}
set_option maxHeartbeats 1000000 in
theorem zcU {t e:TypeId} {sz by_:Nat} {c:Call} {x y:Operand} {px qs:List Prop} {j len:Nat} {d d2 d':Leaf} {β:Nat→Option Nat} {F:Nat→Prop} {a:Act} {w:World} {τ:St} (hS0:SRb E β F σ a w) (hS:SRb E β F τ a w) (hop:o.op= .call c) (hc:c.callee= .builtin .append) (ha:c.args.toList= [x,y]) (hty:c.argTypes.toList= [t,t])
  (hE:Elt P t e sz by_) (hx:ox σ x=(px,.c (.own j sz 0 len))) (hb:τ.hp j= .row d) (hy:z1B σ (ox σ y)=some (qs,d2)) (hp:z03 (px++qs)) (hdd:z40 (z0Q len d) d2=some d') (hszd:szD d=sz∧sz≠0∧len≤z0f d)
  (hlim:len+z0f d2≤4294967296∧by_≤4096):
  ∃ v w',(execOp a.eval o).run P w= .ok (.value v) w'∧
    ((SRb E β F (τ.seth j (.row d')) a w'∧∃ ad cap,v= .slice ad (len+z0f d2) cap∧len+z0f d2≤cap∧cap≤maxLen∧(cap=0∨∃ g,β j=some g∧ad=some ⟨g,0,none⟩∧z0X w' g (.sz (0+cap*sz))))∨
     ∃ g cap cur vs,v= .slice (some ⟨g,0,none⟩) (len+z0f d2) cap∧len+z0f d2≤cap∧cap≤maxLen∧w.grownBy w' none∧w.heap.size≤g∧g<w'.heap.size∧Row w' g cur∧0+cap*sz≤cur.size∧RC F w' d' vs∧∀(k:Nat) (u:Value),vs[k]? =some u→cur[k]? =some u):=by
 have hv1:=oxR hS0 x
 rw[hx] at hv1
 have hv1:=hv1 hp.left
 obtain⟨ad,m,cs,news,hv2,hm,hmc,hr2,hcell⟩:=z3p hS0 hy hp.right (oxR hS0 y)
 have hca:c.args= #[x,y]:=by apply Array.toList_inj.1; simpa using ha
 have hct:c.argTypes= #[t,t]:=by apply Array.toList_inj.1; simpa using hty
 generalize he1:a.eval x=v1 at hv1
 dsimp only at hv1
 cases hv1 with | c hv1=>cases hv1 with | own _ _ _ _ ao cap hlc hmx hh=>
 obtain⟨hs1,hs2,hs3⟩:=hszd
 obtain⟨hl1,hl2⟩:=hlim
 have hpos:0<sz:=Nat.pos_of_ne_zero hs2
 obtain⟨ht,i,z,hi,hz,hsz,hby,hzs⟩:=hE
 have hgone:τ.hp j≠ .gone:=by rw[hb]; intro h; cases h
 have hB:=hS.hp j
 rw[hb] at hB
 have hsz2:szD d2=sz:=by
  have:szD (z0Q len d)=szD d:=by cases d<;>rfl
  cases d<;>cases d2<;>simp only[z0Q,z40] at hdd<;>(try cases hdd)
  ·simp only[szD] at hs1 ⊢; exact hs1
  ·split at hdd
   ·rename_i hk'; simp only[decide_eq_true_eq] at hk'; simp only[szD] at hs1 ⊢; omega
   ·cases hdd
 have hnl:news.length=m*sz:=by rw[hr2.length,hm,hsz2]
 have hbytes:(len+m)*by_≤140737488355328:=by
  have:(len+m)*by_≤4294967296*4096:=Nat.mul_le_mul (by omega) hl2
  omega
 have h63:len+m≤maxLen:=by simp only[maxLen]; omega
 -- the old cells
 have hold:∃ olds,RC F w (z0Q len d) olds∧olds.length=len*sz∧∀ g cur,β j=some g→Row w g cur→∀(i:Nat) (v:Value),olds[i]? =some v→cur[i]? =some v:=by
  by_cases hβ:∃ g cur,β j=some g∧Row w g cur
  ·obtain⟨g,cur,hg',hrow⟩:=hβ
   obtain⟨vs,h1,h2⟩:=z5w hg' hrow hB
   have ht':=h1.take len
   refine⟨_,ht',?_,fun g2 cur2 e1 e2 i v hv=>?_⟩
   ·rw[ht'.length]
    have h3:szD (z0Q len d)=szD d:=by cases d<;>rfl
    have h4:z0f (z0Q len d)=len:=by cases d<;>simp only[z0f,z0Q,List.length_take] at hs3 ⊢ <;>(try omega)
    rw[h3,h4,hs1]
   ·rw[hg'] at e1
    obtain rfl:=Option.some.inj e1
    have:cur2=cur:=by
      obtain⟨t1,f1,k1,_⟩:=e2
      obtain⟨t2,f2,k2,_⟩:=hrow
      rw[k1] at k2
      simp only[Option.some.injEq,Obj.cells.injEq] at k2
      exact k2.1
    subst this
    rw[List.getElem?_take] at hv
    split at hv
    ·exact h2 i v hv
    ·cases hv
  ·have hl0:len=0:=by
     cases d with
     | ints k l=>
       rcases hB with ⟨h,_⟩ |⟨g,cur,h1,h2,_⟩
       ·subst h; simpa[z0f] using hs3
       ·exact absurd ⟨g,cur,h1,h2⟩ hβ
     | recs s l=>
       rcases hB.2 with ⟨h,_⟩ |⟨g,cur,h1,h2,_⟩
       ·subst h; simpa[z0f] using hs3
       ·exact absurd ⟨g,cur,h1,h2⟩ hβ
     | v=>exact hB.elim
     | obj=>exact hB.elim
   subst hl0
   refine⟨[],?_,by simp,fun g cur h1 h2=>absurd ⟨g,cur,h1,h2⟩ hβ⟩
   cases d with
   | ints k l=>simp[RC,z0Q]
   | recs s l=>exact⟨by simp,fun r hr=>by simp at hr,fun i r k x hi=>by simp at hi⟩
   | v=>exact hB.elim
   | obj=>exact hB.elim
 obtain⟨olds,ho1,ho2,ho3⟩:=hold
 have hnone:ad=none→m=0:=fun h=>by
  rcases Nat.eq_zero_or_pos m with h0 | h0
  ·exact h0
  ·have hne:news≠ []:=by
     intro h'
     rw[h'] at hnl
     have:=Nat.mul_pos h0 hpos
     simp at hnl; omega
   obtain⟨b,o',h1,_⟩:=hcell hne
   rw[h] at h1; cases h1
 by_cases hroom:len+m≤cap
 · -- there is room
   rcases hh with rfl |⟨g,hgj,rfl,hcap⟩
   · -- nothing at all
     have hl0:len=0:=by omega
     have hm0:m=0:=by omega
     subst hl0
     have hn0:news= []:=List.eq_nil_of_length_eq_zero (by rw[hnl,hm0]; simp)
     have hrun:(Builtin.append_ #[t,t] o.type #[.slice ao 0 0,.slice ad m cs]).run P w= .ok (.slice ao 0 0) w:=by
      subst hm0
      have hfc:(Builtin.firstCells sz 0 (.slice ad 0 cs)).run P w= .ok #[] w:=by
       cases ad with
       | none=>simp[Builtin.firstCells]
       | some b=>simp[Builtin.firstCells,loadCells,loadCellsFrom]
      cases ao with
      | none=>simp[Builtin.append_,run_underlying ht,sizeOf,typeInfo,hi,hsz,Builtin.lenOf,hfc]
      | some b=>simp[Builtin.append_,run_underlying ht,sizeOf,typeInfo,hi,hsz,Builtin.lenOf,hfc,storeCells]
     refine⟨_,w,z0K hop hc hca hct (by rw[he1,hv2]; exact hrun),?_⟩
     have hlen':z0f d'=0:=by
      obtain⟨_,h2,_⟩:=ho1.app hr2 hdd
      have h4:z0f (z0Q 0 d)=0:=by cases d<;>simp[z0f,z0Q]
      omega
     have hblk:z0p β F w j (.row d'):=by
      obtain⟨hr',h2,h3,_⟩:=ho1.app hr2 hdd
      cases d' with
      | ints k l=>
        refine .inl ⟨List.eq_nil_of_length_eq_zero hlen',fun g hg'=>?_⟩
        cases d with
        | ints k2 l2=>
          rcases hB with ⟨_,h⟩ |⟨g2,cur,h1,h2',_⟩
          ·exact h g hg'
          ·rw[hg'] at h1; obtain rfl:=Option.some.inj h1; exact⟨cur,h2',Nat.zero_le _⟩
        | recs s2 l2=>
          rcases hB.2 with ⟨_,h⟩ |⟨g2,cur,h1,h2',_⟩
          ·exact h g hg'
          ·rw[hg'] at h1; obtain rfl:=Option.some.inj h1; exact⟨cur,h2',Nat.zero_le _⟩
        | v=>exact hB.elim
        | obj=>exact hB.elim
      | recs s l=>
        have hl:l= []:=List.eq_nil_of_length_eq_zero hlen'
        subst hl
        refine⟨fun r hr=>by simp at hr,.inl ⟨rfl,fun g hg'=>?_⟩⟩
        cases d with
        | ints k2 l2=>
          rcases hB with ⟨_,h⟩ |⟨g2,cur,h1,h2',_⟩
          ·exact h g hg'
          ·rw[hg'] at h1; obtain rfl:=Option.some.inj h1; exact⟨cur,h2',Nat.zero_le _⟩
        | recs s2 l2=>
          rcases hB.2 with ⟨_,h⟩ |⟨g2,cur,h1,h2',_⟩
          ·exact h g hg'
          ·rw[hg'] at h1; obtain rfl:=Option.some.inj h1; exact⟨cur,h2',Nat.zero_le _⟩
        | v=>exact hB.elim
        | obj=>exact hB.elim
      | v=>exact hr'.elim
      | obj=>exact hr'.elim
     have hS2:SRb E β F (τ.seth j (.row d')) a w:=by
      have hne:∀ i,(τ.seth j (.row d')).hp i≠ .gone→τ.hp i≠ .gone:=by
       intro i hi'
       by_cases e':i=j
       ·rw[e']; exact hgone
       ·simpa[St.seth,e'] using hi'
      refine⟨hS.tm,hS.sz,hS.df,fun i=>?_,fun i k g hi' hk' e1 e2=>hS.inj i k g (hne i hi') (hne k hk') e1 e2,fun i g hi' e1=>hS.own i g (hne i hi') e1,hS.lt,hS.fr,hS.keep,hS.bb,hS.nbl⟩
      by_cases e':i=j
      ·subst e'; simpa[St.seth] using hblk
      ·simp only[St.seth,e',if_false]; exact hS.hp i
     refine .inl ⟨hS2,?_⟩
     refine⟨ao,0,?_,?_,?_,.inl rfl⟩
     ·rw[←hm,hm0]
     ·omega
     ·omega
   · -- in place
     obtain⟨cur,hrow,hcap⟩:=hcap
     have hcur:=ho3 g cur hgj hrow
     obtain⟨_,_,hnF⟩:=hS.own j g hgone hgj
     have hle:len*sz+news.length≤cur.size:=by
      rw[hnl,←Nat.add_mul]
      exact Nat.le_trans (Nat.mul_le_mul_right _ hroom) (by omega)
     obtain⟨w',r1,r2⟩:=z1q (P:=P) (g:=g) (off:=len*sz) news 0 w cur hr2.one hrow (by omega)
     simp only[Nat.add_zero] at r2
     have hls:=z3K hle
     have hfc:(Builtin.firstCells sz m (.slice ad m cs)).run P w= .ok news.toArray w:=by
      cases had:ad with
      | none=>
        have:=hnone had
        subst this
        have:news= []:=List.eq_nil_of_length_eq_zero (by rw[hnl]; simp)
        subst this
        simp[Builtin.firstCells]
      | some b=>
        by_cases hne:news= []
        ·have:m*sz=0:=by rw[←hnl,hne]; rfl
         subst hne
         simp[Builtin.firstCells,this,loadCells,loadCellsFrom]
        ·obtain⟨b',o',h1,h2⟩:=hcell hne
         rw[had] at h1
         obtain rfl:=Option.some.inj h1
         simp only[Builtin.firstCells]
         exact z29 h2 hnl.symm
     have hrun:(Builtin.append_ #[t,t] o.type #[.slice (some ⟨g,0,none⟩) len cap,.slice ad m cs]).run P w= .ok (.slice (some ⟨g,0,none⟩) (len+m) cap) w':=by
      simp[Builtin.append_,run_underlying ht,sizeOf,typeInfo,hi,hsz,Builtin.lenOf,hroom,hfc,z0D,r1]
     refine⟨_,w',z0K hop hc hca hct (by rw[he1,hv2]; exact hrun),?_⟩
     obtain⟨hr',_,_,_⟩:=ho1.app hr2 hdd
     have hS2:=(hS.written hgone hgj hrow r2 hls (blk:= .row d') (z4S hgj r2.row (r2.leafs hnF hr') (fun i v hv=>by
      rw[z3B hle]
      rw[List.getElem?_append,ho2] at hv
      by_cases h1:i<len*sz
      ·rw[if_pos h1] at hv ⊢
       exact hcur i v hv
      ·rw[if_neg h1] at hv ⊢
       have:=(List.getElem?_eq_some_iff.1 hv).1
       rw[if_pos (by omega)]
       exact hv))).1
     exact .inl ⟨hS2,_,_,by rw[←hm],by omega,hmx,.inr ⟨g,hgj,rfl,_,r2.row,by rw[hls]; exact hcap⟩⟩
 · -- a new array
   have hmpos:0<m:=by omega
   have hne:news≠ []:=by
    intro h'
    rw[h'] at hnl
    have:=Nat.mul_pos hmpos hpos
    simp at hnl; omega
   obtain⟨b,o',hb0,hcell2⟩:=hcell hne
   subst hb0
   have hgrow:∃ v' w',(Builtin.append_ #[t,t] o.type #[.slice ao len cap,.slice (some ⟨b,o',none⟩) m cs]).run P w= .ok v' w'∧w'.ownsRow w.heap.size e sz v' (len+m) (olds++news)∧w.grownBy w' none:=by
    have hcell':∀(k:Nat) (u:Value),news[k]? =some u→w.cell? ((⟨b,o',none⟩:Addr).add k)=some u:=fun k u hu=>by rw[z0D]; exact hcell2 k u hu
    cases ao with
    | none=>
      have hc0:cap=0:=by
       rcases hh with h |⟨g,_,h,_⟩
       ·exact h
       ·cases h
      have hl0:len=0:=by omega
      subst hc0; subst hl0
      have:olds= []:=List.eq_nil_of_length_eq_zero (by rw[ho2]; simp)
      subst this
      obtain⟨v',w',h1,h2,h3,_⟩:=run_append_own (P:=P) w w.heap.size t o.type e i z sz by_ ht hi hz hsz hby hzs hpos (.slice none 0 0) 0 [] (World.ownsRow_nil w _ e sz) ⟨b,o',none⟩ m cs news hnl hcell' hr2.one (by omega) hbytes (Nat.le_refl _)
      exact⟨v',w',h1,h2,h3⟩
    | some b2=>
      exact run_append_arg_grows (P:=P) w t o.type e i z sz by_ ht hi hz hsz hby hzs hpos b2 len cap olds ho2 (fun k u hu=>by
       rcases hh with rfl |⟨g,hgj,h,cur,hrow,hcap⟩
       ·have:len=0:=by omega
        subst this
        have:olds= []:=List.eq_nil_of_length_eq_zero (by rw[ho2]; simp)
        subst this
        simp at hu
       ·obtain rfl:=Option.some.inj h
        rw[z0D,Nat.zero_add,hrow.cell]
        exact ho3 g cur hgj hrow k u hu) ⟨b,o',none⟩ m cs news hnl hcell' (by omega) h63 hbytes
   obtain⟨v',w',hrun,hown,hgb⟩:=hgrow
   refine⟨v',w',z0K hop hc hca hct (by rw[he1,hv2]; exact hrun),?_⟩
   obtain⟨hsz',hown⟩:=hown
   rcases hown with ⟨_,h0⟩ |⟨g',cap',cur',rfl,hg1,hg2,hn1,hn2,hn3,hn4⟩
   ·omega
   ·have hlt':g'<w'.heap.size:=(Array.getElem?_eq_some_iff.1 hg2).1
    obtain⟨hr',_,_,_⟩:=ho1.app hr2 hdd
    have hrow':Row w' g' cur':=⟨e,(0,0),hg2,.inl rfl⟩
    refine .inr ⟨g',cap',cur',olds++news,by rw[←hm],by omega,hn2,hgb,hg1,hlt',hrow',by rw[hn3]; omega,hr'.mono fun b' hb'=>⟨hb',hgb.block b' (hS.fr b' hb').1 (by simp)⟩,fun k u hu=>?_⟩
    rw[←hn4,List.getElem?_take] at hu
    split at hu
    ·simpa using hu
    ·cases hu
theorem zjb {d d2 d':Leaf} {len:Nat} (h:z40 (z0Q len d) d2=some d') (hl:len≤z0f d) (hr:szD d≠0):z0f d'=len+z0f d2∧szD d'=szD d:=by
 cases d<;>cases d2<;>simp only[z0Q,z40] at h<;>(try cases h)
 ·split at h
  ·simp only[Option.some.injEq] at h; subst h; simp only[z0f,szD,List.length_append,List.length_take] at hl ⊢; exact⟨by omega,trivial⟩
  ·cases h
 ·split at h
  ·simp only[Option.some.injEq] at h; subst h; simp only[z0f,szD,List.length_append,List.length_take] at hl ⊢; exact⟨by omega,trivial⟩
  ·cases h
theorem SRb.melt {β:Nat→Option Nat} {F:Nat→Prop} {a:Act} {w:World} (h:SRb E β F σ a w) {j:Nat} (hgone:σ.hp j≠ .gone) (hjn:E.nb≤j) (hl:∀ i,i<E.nb→σ.hp i≠ .gone):
  SRb E β (fun b=>F b∨β j=some b) (σ.seth j .gone) a w:=by
 have hF:∀ b,F b→(F b∨β j=some b):=fun b hb=> .inl hb
 have hne:∀ i,(σ.seth j .gone).hp i≠ .gone→i≠j∧σ.hp i≠ .gone∧(σ.seth j .gone).hp i=σ.hp i:=by
  intro i hi
  by_cases e:i=j
  ·simp[St.seth,e] at hi
  ·have e1:(σ.seth j .gone).hp i=σ.hp i:=by simp[St.seth,e]
   rw[e1] at hi
   exact⟨e,hi,e1⟩
 refine⟨fun i=>(h.tm i).mono (fun _ _ h=>h) (fun b hb=>⟨hF b hb,rfl⟩) (fun _ _ h=>h),h.sz,h.df,fun i=>?_,fun i k g hi hk=>h.inj i k g (hne i hi).2.1 (hne k hk).2.1,fun i g hi e=>?_,h.lt,fun b hb=>?_,h.keep,h.bb,h.nbl⟩
 ·by_cases e:i=j
  ·simp only[St.seth,e,if_true]; exact trivial
  ·simp only[St.seth,e,if_false]
   have:=h.hp i
   revert this
   cases σ.hp i with
   | gone=>exact fun _=>trivial
   | map es=>
     rintro⟨g,ms,ck,e1,e2,e3,e4⟩
     exact⟨g,ms,ck,e1,e2,e3,fun i k x hx=>let ⟨e,q1,q2,q3⟩:=e4 i k x hx; ⟨e,q1,q2,q3.mono fun b hb=>⟨hF b hb,rfl⟩⟩⟩
   | raw g ob=>
     exact fun h=>h
   | mapS g ms ck es=>
     rintro⟨e1,e2,e3,e4⟩
     exact⟨e1,e2,e3,fun i k x hx=>let ⟨e,q1,q2,q3⟩:=e4 i k x hx; ⟨e,q1,q2,q3.mono fun b hb=>⟨hF b hb,rfl⟩⟩⟩
   | cells cs=>
     rintro⟨g,cur,e1,e2,e3,e4⟩
     exact⟨g,cur,e1,e2,e3,fun i x v hx hv=>(e4 i x v hx hv).mono (fun _ _ h=>h) (fun b hb=>⟨hF b hb,rfl⟩) (fun _ _ h=>h)⟩
   | fr vs cs=>
     rintro⟨g,cur,e1,e2,e3,e4⟩
     exact⟨g,cur,e1,e2,e3,fun i x v hx hv=>(e4 i x v hx hv).mono (fun _ _ h=>h) (fun b hb=>⟨hF b hb,rfl⟩) (fun _ _ h=>h)⟩
   | row d=>
     cases d with
     | ints k l=>exact fun h=>h
     | recs sz l=>
       rintro⟨e1,e2⟩
       refine⟨e1,?_⟩
       rcases e2 with e2 |⟨g,cur,e2,e3,e4⟩
       ·exact .inl e2
       ·refine .inr ⟨g,cur,e2,e3,fun i r k x hi hk=>?_⟩
        obtain⟨u,hu,hl⟩:=e4 i r k x hi hk
        exact⟨u,hu,hl.mono fun b hb=>⟨hF b hb,rfl⟩⟩
     | v=>exact fun h=>h
     | obj=>exact fun h=>h
 ·obtain⟨n1,n2,_⟩:=hne i hi
  obtain⟨a1,a2,a3⟩:=h.own i g n2 e
  refine⟨a1,a2,?_⟩
  rintro(hf | hf)
  ·exact a3 hf
  ·exact n1 (h.inj i j g n2 hgone e hf)
 ·rcases hb with hb | hb
  ·exact h.fr b hb
  ·obtain⟨a1,a2,a3⟩:=h.own j b hgone hb
   refine⟨a1,?_⟩
   rcases a2 with a2 | a2
   ·exact .inr a2
   ·exfalso
    obtain⟨i,hi,e⟩:=E.hM b a2
    have e':β i=some b:=by rw[h.bb i hi]; exact e
    have:=h.inj i j b (hl i hi) hgone e' hb
    omega
theorem SRb.pass {β:Nat→Option Nat} {F:Nat→Prop} {a:Act} {w:World} (h:SRb E β F σ a w) {j K:Nat} {d:Leaf} (hj:σ.hp j= .row d) (hK:β K=none) (hKb:E.nb≤K):
  SRb E (fun i=>if i=K then β j else β i) F ⟨σ.tm,fun i=>if i=K then .row d else if i=j then .gone else σ.hp i⟩ a w:=by
 have hgone:σ.hp j≠ .gone:=by rw[hj]; intro h; cases h
 have hβ:∀ i g,β i=some g→(if i=K then β j else β i)=some g:=by
  intro i g hi
  rw[if_neg (by intro e; subst e; rw[hK] at hi; cases hi)]; exact hi
 have hne:∀ i,i≠K→(if i=K then(.row d:Blk) else if i=j then .gone else σ.hp i)≠ .gone→i≠j∧σ.hp i≠ .gone:=by
  intro i hi h1
  rw[if_neg hi] at h1
  by_cases e:i=j
  ·rw[if_pos e] at h1; exact absurd rfl h1
  ·rw[if_neg e] at h1; exact⟨e,h1⟩
 refine⟨fun i=>(h.tm i).mono hβ (fun b hb=>⟨hb,rfl⟩) (fun _ _ h=>h),h.sz,h.df,fun i=>?_,fun i k g hi hk e1 e2=>?_,fun i g hi e=>?_,fun i g e=>?_,h.fr,h.keep,fun i hi=>?_,h.nbl⟩
 ·show z0p _ F w i (if i=K then(.row d:Blk) else if i=j then .gone else σ.hp i)
  by_cases e:i=K
  ·rw[if_pos e]
   subst e
   have hB:=h.hp j
   rw[hj] at hB
   cases d with
   | ints k l=>
     rcases hB with ⟨e1,e2⟩ |⟨g,cur,e1,e2,e3⟩
     ·exact .inl ⟨e1,fun g hg=>e2 g (by simpa using hg)⟩
     ·exact .inr ⟨g,cur,by simpa using e1,e2,e3⟩
   | recs s l=>
     refine⟨hB.1,?_⟩
     rcases hB.2 with ⟨e1,e2⟩ |⟨g,cur,e1,e2,e3⟩
     ·exact .inl ⟨e1,fun g hg=>e2 g (by simpa using hg)⟩
     ·exact .inr ⟨g,cur,by simpa using e1,e2,e3⟩
   | v=>exact hB.elim
   | obj=>exact hB.elim
  ·rw[if_neg e]
   by_cases e':i=j
   ·rw[if_pos e']; exact trivial
   ·rw[if_neg e']
    have hB:=h.hp i
    revert hB
    cases σ.hp i with
    | gone=>exact fun _=>trivial
    | cells cs=>
      rintro⟨g,cur,e1,e2,e3,e4⟩
      exact⟨g,cur,(if_neg e).trans e1,e2,e3,fun i x v hx hv=>(e4 i x v hx hv).mono hβ (fun b hb=>⟨hb,rfl⟩) (fun _ _ h=>h)⟩
    | fr vs cs=>
      rintro⟨g,cur,e1,e2,e3,e4⟩
      exact⟨g,cur,(if_neg e).trans e1,e2,e3,fun i x v hx hv=>(e4 i x v hx hv).mono hβ (fun b hb=>⟨hb,rfl⟩) (fun _ _ h=>h)⟩
    | map es=>
      rintro⟨g,ms,ck,e1,e2⟩
      exact⟨g,ms,ck,(if_neg e).trans e1,e2⟩
    | raw g ob=>
      rintro⟨e1,e2⟩
      exact⟨(if_neg e).trans e1,e2⟩
    | mapS g ms ck es=>
      rintro⟨e1,e2⟩
      exact⟨(if_neg e).trans e1,e2⟩
    | row d=>
      cases d with
      | ints k l=>
        rintro(⟨e1,e2⟩ |⟨g,cur,e1,e2,e3⟩)
        ·exact .inl ⟨e1,fun g hg=>e2 g ((if_neg e).symm.trans hg)⟩
        ·exact .inr ⟨g,cur,(if_neg e).trans e1,e2,e3⟩
      | recs s l=>
        rintro⟨e0,⟨e1,e2⟩ |⟨g,cur,e1,e2,e3⟩⟩
        ·exact⟨e0,.inl ⟨e1,fun g hg=>e2 g ((if_neg e).symm.trans hg)⟩⟩
        ·exact⟨e0,.inr ⟨g,cur,(if_neg e).trans e1,e2,e3⟩⟩
      | v=>exact fun h=>h
      | obj=>exact fun h=>h
 ·by_cases ei:i=K
  ·by_cases ek:k=K
   ·rw[ei,ek]
   ·rw[if_pos ei] at e1
    rw[if_neg ek] at e2
    obtain⟨n1,n2⟩:=hne k ek hk
    exact absurd (h.inj j k g hgone n2 e1 e2).symm n1
  ·by_cases ek:k=K
   ·rw[if_pos ek] at e2
    rw[if_neg ei] at e1
    obtain⟨n1,n2⟩:=hne i ei hi
    exact absurd (h.inj i j g n2 hgone e1 e2) n1
   ·rw[if_neg ei] at e1
    rw[if_neg ek] at e2
    exact h.inj i k g (hne i ei hi).2 (hne k ek hk).2 e1 e2
 ·by_cases ei:i=K
  ·rw[if_pos ei] at e
   exact h.own j g hgone e
  ·rw[if_neg ei] at e
   exact h.own i g (hne i ei hi).2 e
 ·by_cases ei:i=K
  ·rw[if_pos ei] at e
   exact h.lt j g e
  ·rw[if_neg ei] at e
   exact h.lt i g e
 ·rw[if_neg (by omega)]
  exact h.bb i hi
theorem zpJ (hp:Nat→Blk) (j K:Nat) (b:Blk):z1a hp [(K,b),(j,.gone)]=fun i=>if i=K then b else if i=j then .gone else hp i:=by
 funext i
 simp only[z1a,z0N]
 by_cases h:i=K
 ·subst h; simp
 ·have hb:Nat.beq i K=false:=by
   cases hb:Nat.beq i K with
   | false=>rfl
   | true=>exact absurd (Nat.eq_of_beq_eq_true hb) h
  rw[if_neg h,hb]
  dsimp only
  by_cases h':i=j
  ·subst h'; simp
  ·have hb:Nat.beq i j=false:=by
    cases hb:Nat.beq i j with
    | false=>rfl
    | true=>exact absurd (Nat.eq_of_beq_eq_true hb) h'
   rw[if_neg h',hb]
theorem zei {σ τ:St} (h:τ.hp=σ.hp):z1B τ=z1B σ:=by
 funext q
 unfold z1B
 rw[h]
theorem zpK {own:List Nat} {j K:Nat} {blk:Blk} (hj:z0c j own=true) (hK:z0c K own=true):∀ k,z0N [(K,blk),(j,.gone)] k≠none→z0c k own=true:=by
 intro k hk
 simp only[z0N] at hk
 cases hb:Nat.beq k K with
 | true=>rw[Nat.eq_of_beq_eq_true hb]; exact hK
 | false=>
   rw[hb] at hk
   dsimp only at hk
   cases hb:Nat.beq k j with
   | true=>rw[Nat.eq_of_beq_eq_true hb]; exact hj
   | false=>rw[hb] at hk; exact absurd rfl hk
theorem zcV {own:List Nat} {j:Nat} {blk:Blk} (hj:z0c j own=true):∀ k,z0N [(j,blk)] k≠none→z0c k own=true:=by
 intro k hk
 simp only[z0N] at hk
 cases hb:Nat.beq k j with
 | true=>rw[Nat.eq_of_beq_eq_true hb]; exact hj
 | false=>rw[hb] at hk; exact absurd rfl hk
theorem z3r {ns b own:List Nat} {bs:List (List Nat×List Nat)} {o:Oper} {l:List Oper} {x:Av} {u:List (Nat×Blk)} {K:St→Prop} (h:z75 P E ops ns o b σ x u) (ho:∀ j,z0N u j≠none→z0c j own=true)
 (hk:z0a P E ops ns bs l ((St.mk σ.tm (z1a σ.hp u)).put o.dst x) K):z0a P E ops ns ((b,own)::bs) (o::l) σ K:=⟨x,u,h,ho,hk⟩
theorem SRb.cut {b:List Nat} {τ:St} {β:Nat→Option Nat} {F:Nat→Prop} {a:Act} {w:World} (hS:SRb E β F τ a w) (hl:LikeU ops o b τ σ):SRb E β F ⟨τ.tm,fgt b σ.hp⟩ a w:=hS.lose rfl fun j=>by
 show fgt b σ.hp j=_∨fgt b σ.hp j= .gone
 rw[z9N]
 cases hb:z0c j b with
 | true=>exact .inr rfl
 | false=>exact .inl (hl.hp j hb).symm
theorem zrH {ns b own:List Nat} {bs:List (List Nat×List Nat)} {l:List Oper} {K:St→Prop} {t e:TypeId} {sz by_ n dn:Nat} {parts:Array (Nat×Operand)} {ps:List Prop} {out:List Cell} {d:Leaf} (hop:o.op= .buildSlice t n parts) (hg:o.guard=none) (hd:o.dst=some dn) (hE0:z0e E.n (some dn)=true)
  (hE:Elt P t e sz by_) (hz:z01 P e) (hf:z1A (fun i=>some (i*sz,sz)) (List.replicate (n*sz) .un) (parts.toList.map fun(i,x)=>(i,ox ⟨σ.tm,fgt b σ.hp⟩ x))=some (ps,out)) (hp:z03 ps) (hdd:z2H P e sz n out=some d) (hn:n*sz≤16777216∧n≤16777216∧z0f d=n∧szD d=sz)
  (hgone:σ.hp (nk (some dn) 0)= .gone) (hb:z0c (nk (some dn) 0) b=false) (hns:z0c (nk (some dn) 0) ns=true) (ho:z0c (nk (some dn) 0) own=true)
  (hk:z0a P E ops ns bs l ((σ.seth (nk (some dn) 0) (.row d)).put (some dn) (.c (.own (nk (some dn) 0) sz 0 n))) K):z0a P E ops ns ((b,own)::bs) (o::l) σ K:=by
 have eu:∀ hp:Nat→Blk,z1a hp [(nk (some dn) 0,.row d)]=fun i=>if i=nk (some dn) 0 then .row d else hp i:=fun hp=>z5U hp _ _
 refine z3r (x:= .c (.own (nk (some dn) 0) sz 0 n)) (u:= [(nk (some dn) 0,.row d)]) ?_ (zcV ho) ?_
 ·intro τ hl β F a w hS hnn K Q hK
  rw[show Region.wanted o (yielded ops a.tmps)=true by simp[Region.wanted,hg],if_pos rfl]
  have hgτ:τ.hp (nk (some dn) 0)= .gone:=by rw[hl.hp _ hb]; exact hgone
  have hnb:E.nb≤nk (some dn) 0:=by
   have:=hS.nbl
   simp only[nk,Option.getD_some,Nat.mul_zero,Nat.add_zero]
   omega
  have h1:=hnn dn hd hns
  have hcut:SRb E β F ⟨τ.tm,fgt b σ.hp⟩ a w:=hS.cut hl
  have e1:(parts.toList.map fun(i,x)=>(i,ox ⟨τ.tm,fgt b σ.hp⟩ x))=parts.toList.map fun(i,x)=>(i,ox ⟨σ.tm,fgt b σ.hp⟩ x):=List.map_congr_left fun p hp=>by
   obtain⟨i,x⟩:=p
   have:ox τ x=ox σ x:=hl.ox x (by
    rw[hop]
    simp only[Op.operands]
    simp
    exact⟨i,by simpa using hp⟩)
   have:ox ⟨τ.tm,fgt b σ.hp⟩ x=ox ⟨σ.tm,fgt b σ.hp⟩ x:=this
   simp only[this]
  obtain⟨r,hrun,hRC⟩:=zce hcut hE hz (by rw[e1]; exact hf) hp hdd hn
  have hrow:=z3h (w:=w) r e
  have hbk:∀ k,k<w.heap.size→(w.alloc (.cells r e)).heap[k]? =w.heap[k]?:=fun k hk=>RowKit.Below.heap_alloc w _ k hk
  obtain⟨hS2,h2⟩:=hS.alloc h1 hnb hgτ (.cells r e) (.row d) (z4S (vs:=r.toList) (g:=w.heap.size) (by simp) hrow (hRC.mono fun b' hb'=>⟨hb',hbk b' (hS.fr b' hb').1⟩) (fun i v hv=>by simpa using hv))
  unfold Oper.wp
  have hrun2:(execOp a.eval o).run P w= .ok (.value (.slice (some ⟨w.heap.size,0,none⟩) n n)) (w.alloc (.cells r e)):=by
   simp only[execOp,hop,Sem.run_bind,hrun,Result.andThen_ok]
   rfl
  rw[hrun2]
  refine hK _ _ (fun i=>if i=nk (some dn) 0 then some w.heap.size else β i) F ?_ fun k hk=>?_
  ·rw[hd,eu]
   refine hS2.put (.c (.own _ _ _ _ _ _ (Nat.le_refl _) (by simp only[maxLen]; omega) (.inr ⟨w.heap.size,by simp,rfl,r,hrow,?_⟩))) (z0x hE0)
   have:=hRC.length
   rw[hn.2.2.1,hn.2.2.2] at this
   simp at this
   omega
  ·refine if_neg fun e=>?_
   rw[e] at hk
   simp[z0N] at hk
 ·rw[eu,hd]
  exact hk
theorem zrI {ns b own:List Nat} {bs:List (List Nat×List Nat)} {l:List Oper} {K:St→Prop} {c:Call} {fo:Operand} {f:FuncId} {first cap:List Cell} {pf:List Prop} {xs:List Av} {dn sz n:Nat} {d:Leaf} (hF:Ct P f xs [] (.c (.own 0 sz 0 n)) [] [.row d]) (hop:o.op= .call c) (hg:o.guard=none) (hd:o.dst=some dn) (hE0:z0e E.n (some dn)=true)
  (hcv:c.callee= .value fo) (hfo:ox ⟨σ.tm,fgt b σ.hp⟩ fo=(pf,.c (.fn (.func f) first cap))) (hxs:first.map Av.c++(oxs ⟨σ.tm,fgt b σ.hp⟩ c.args.toList).2++cap.map Av.c=xs) (hren:xs.map (Av.ren (z0B [] (some dn) 1))=xs) (hok:xs.all (Av.ok 0)=true) (hok2:Blk.ok 1 (.row d)=true) (hren2:Blk.ren (z0B [] (some dn) 1) (.row d)= .row d)
  (hp:z03 (pf++(oxs ⟨σ.tm,fgt b σ.hp⟩ c.args.toList).1))
  (hgone:σ.hp (nk (some dn) 0)= .gone) (hb:z0c (nk (some dn) 0) b=false) (hns:z0c (nk (some dn) 0) ns=true) (ho:z0c (nk (some dn) 0) own=true)
  (hk:z0a P E ops ns bs l ((σ.seth (nk (some dn) 0) (.row d)).put (some dn) (.c (.own (nk (some dn) 0) sz 0 n))) K):z0a P E ops ns ((b,own)::bs) (o::l) σ K:=by
 have eu:∀ hp:Nat→Blk,z1a hp [(nk (some dn) 0,.row d)]=fun i=>if i=nk (some dn) 0 then .row d else hp i:=fun hp=>z5U hp _ _
 refine z3r (x:= .c (.own (nk (some dn) 0) sz 0 n)) (u:= [(nk (some dn) 0,.row d)]) ?_ (zcV ho) ?_
 ·intro τ hl β F a w hS hnn KK Q hK
  rw[show Region.wanted o (yielded ops a.tmps)=true by simp[Region.wanted,hg],if_pos rfl]
  have h1:=hnn dn hd hns
  have hcut:SRb E β F ⟨τ.tm,fgt b σ.hp⟩ a w:=hS.cut hl
  have x1:ox ⟨τ.tm,fgt b σ.hp⟩ fo=ox ⟨σ.tm,fgt b σ.hp⟩ fo:=hl.ox fo (by rw[hop]; simp[Op.operands,Call.operands,hcv])
  have x2:oxs ⟨τ.tm,fgt b σ.hp⟩ c.args.toList=oxs ⟨σ.tm,fgt b σ.hp⟩ c.args.toList:=z4g (o:=o) (τ:=⟨τ.tm,fgt b σ.hp⟩) (σ:=⟨σ.tm,fgt b σ.hp⟩) (fun y hy=>hl.ox y hy) _ fun y hy=>by
   rw[hop]; simp only[Op.operands,Call.operands]; simp at hy ⊢; first | exact .inr hy | exact .inl hy | simp[hy]
  have hfv:=oxR hcut fo
  rw[x1,hfo] at hfv
  have hfv:=hfv hp.left
  generalize hv:a.eval fo=fv at hfv
  cases hfv with | c hfv=>cases hfv with | fn _ _ _ f1 c1 n1 n2 r1 r2=>
  obtain⟨l1,l2⟩:=z59 hcut c.args.toList (by rw[x2]; exact hp.right)
  rw[x2] at l1 l2
  have hrun:(execOp a.eval o).run P w= .ok (.enter f (f1++c.args.map a.eval++c1)) w:=by
   simp only[execOp,hop,resolve,hcv,hv,Deferred.ofValue,Sem.run_bind,Sem.run_pure,Result.andThen_ok,invoke]
   exact z22 hF.2.1
  unfold Oper.wp
  rw[hrun,Oper.upon_enter]
  have hcore:=z6W (σ:=τ) (bs:= []) (d:=some dn) (ys:=xs) (vs:=(f1++c.args.map a.eval++c1).toList) hF hS (fun i=>by
   rcases Nat.lt_or_ge i 1 with h | h
   ·obtain rfl:i=0:=by omega
    exact .inl h1
   ·exact .inr h) ⟨hren.symm,trivial,trivial,by
    simp only[Bool.and_eq_true]
    refine⟨⟨⟨⟨⟨⟨hok,rfl⟩,rfl⟩,rfl⟩,?_⟩,rfl⟩,by simp[z07]⟩
    simpa using hok2⟩ (by rw[←hxs]; simp[n1,n2,l1]) (fun i y v hy hv=>by
   rw[←hxs] at hy
   simp only[Array.toList_append,List.append_assoc] at hv
   rw[List.append_assoc] at hy
   have hm:∀ {x:Av} {v:Value},AvR β F w x v→AvR β F w x v:=fun h=>h
   rcases Nat.lt_or_ge i first.length with h | h
   ·rw[List.getElem?_append_left (by simpa using h)] at hy
    rw[List.getElem?_append_left (by simp[n1]; exact h)] at hv
    rw[List.getElem?_map,Option.map_eq_some_iff] at hy
    obtain⟨x,hx,rfl⟩:=hy
    exact .c (r1 i x v hx (by simpa using hv))
   ·rw[List.getElem?_append_right (by simpa using h)] at hy
    rw[List.getElem?_append_right (by simp[n1]; exact h)] at hv
    simp only[List.length_map,Array.length_toList,n1] at hy hv
    rcases Nat.lt_or_ge (i -first.length) c.args.toList.length with h' | h'
    ·rw[List.getElem?_append_left (by rw[l1]; exact h')] at hy
     rw[List.getElem?_append_left (by simpa using h')] at hv
     exact l2 _ y v hy (by simpa using hv)
    ·rw[List.getElem?_append_right (by rw[l1]; exact h')] at hy
     rw[List.getElem?_append_right (by simpa using h')] at hv
     rw[List.getElem?_map,Option.map_eq_some_iff] at hy
     obtain⟨x,hx,rfl⟩:=hy
     refine .c (r2 _ x v hx ?_)
     simp only[l1] at hx
     simpa[l1] using hv)
  rw[Array.toArray_toList] at hcore
  refine hcore.mono fun e w' hq=>?_
  obtain⟨v,rfl,β',F',hv',hβ',hS'⟩:=hq
  have e3:z0u τ [] (some dn) [] [.row d]=⟨τ.tm,z1a τ.hp [(nk (some dn) 0,.row d)]⟩:=by
   rw[eu]
   simp only[z0u,List.map_nil,List.map_cons,hren2]
   rfl
  simp only[List.length_cons,List.length_nil,Nat.zero_add] at e3 hS' hv' hβ'
  rw[e3] at hS'
  refine hK _ _ β' F' ?_ fun k hk=>?_
  ·rw[hd]
   exact hS'.put hv' (z0x hE0)
  ·refine hβ' k fun hm=>?_
   simp[z07] at hm
   rw[hm] at hk
   simp[z0N] at hk
 ·rw[eu,hd]
  exact hk
theorem zkf {ns b own:List Nat} {bs:List (List Nat×List Nat)} {l:List Oper} {K:St→Prop} {t e:TypeId} {sz by_ dn:Nat} {c:Call} {x y:Operand} {px qs:List Prop} {j len m:Nat} {d d2 d':Leaf} (hop:o.op= .call c) (hc:c.callee= .builtin .append) (ha:c.args.toList= [x,y]) (hty:c.argTypes.toList= [t,t]) (hg:o.guard=none) (hd:o.dst=some dn) (hE0:z0e E.n (some dn)=true)
  (hE:Elt P t e sz by_) (hx:ox ⟨σ.tm,fgt b σ.hp⟩ x=(px,.c (.own j sz 0 len))) (hb:σ.hp j= .row d) (hy:z1B ⟨σ.tm,fgt b σ.hp⟩ (ox ⟨σ.tm,fgt b σ.hp⟩ y)=some (qs,d2)) (hp:z03 (px++qs)) (hdd:z40 (z0Q len d) d2=some d') (hszd:szD d=sz∧sz≠0∧len≤z0f d)
  (hlim:len+z0f d2≤4294967296∧by_≤4096) (hm:len+z0f d2=m) (hjb:z0c j b=false) (hjo:z0c j own=true) (hjK:Nat.beq j (nk (some dn) 0)=false)
  (hgone:σ.hp (nk (some dn) 0)= .gone) (hKb:z0c (nk (some dn) 0) b=false) (hns:z0c (nk (some dn) 0) ns=true) (ho:z0c (nk (some dn) 0) own=true)
  (hk:z0a P E ops ns bs l (((σ.seth j .gone).seth (nk (some dn) 0) (.row d')).put (some dn) (.c (.own (nk (some dn) 0) sz 0 m))) K):z0a P E ops ns ((b,own)::bs) (o::l) σ K:=by
 subst hm
 generalize hKK:nk (some dn) 0=KK at*
 have hne:j≠KK:=fun e=>by rw[e] at hjK; simp at hjK
 have eu:∀ hp:Nat→Blk,z1a hp [(KK,.row d'),(j,.gone)]=fun i=>if i=KK then .row d' else if i=j then .gone else hp i:=fun hp=>zpJ hp _ _ _
 refine z3r (x:= .c (.own KK sz 0 (len+z0f d2))) (u:= [(KK,.row d'),(j,.gone)]) ?_ (zpK hjo ho) ?_
 ·intro τ hl β F a w hS hnn K Q hK
  rw[show Region.wanted o (yielded ops a.tmps)=true by simp[Region.wanted,hg],if_pos rfl]
  have hgτ:τ.hp KK= .gone:=by rw[hl.hp _ hKb]; exact hgone
  have hnb:E.nb≤KK:=by
   have:=hS.nbl
   rw[←hKK]
   simp only[nk,Option.getD_some,Nat.mul_zero,Nat.add_zero]
   omega
  have h1:=hnn dn hd (by rw[hKK]; exact hns)
  rw[hKK] at h1
  have hjτ:τ.hp j= .row d:=by rw[hl.hp _ hjb]; exact hb
  have e1:ox τ x=ox σ x:=hl.ox x (by rw[hop]; simp[Op.operands,Call.operands,ha,hc])
  have e2:ox τ y=ox σ y:=hl.ox y (by rw[hop]; simp[Op.operands,Call.operands,ha,hc])
  have hgK:τ.hp KK≠ .row d'∨True:= .inr trivial
  clear hgK
  obtain⟨v,w',hrun,hres⟩:=zcU (hS.cut hl) hS hop hc ha hty hE (by rw[←hx]; exact e1) hjτ (by
   rw[←hy]
   have:ox ⟨τ.tm,fgt b σ.hp⟩ y=ox ⟨σ.tm,fgt b σ.hp⟩ y:=e2
   rw[this]; exact congrFun (zei rfl) _) hp hdd hszd hlim
  unfold Oper.wp
  rw[hrun]
  rcases hres with ⟨hS2,ad,cap,rfl,c1,c2,c3⟩ |⟨g,cap,cur,vs,rfl,c1,c2,hgb,g1,g2,hrow,hcap,hRC,hpre⟩
  ·have h2:=hS2.pass (j:=j) (K:=KK) (d:=d') (by simp[St.seth]) h1 hnb
   have e3:(⟨(τ.seth j (.row d')).tm,fun i=>if i=KK then .row d' else if i=j then .gone else(τ.seth j (.row d')).hp i⟩:St)=⟨τ.tm,z1a τ.hp [(KK,.row d'),(j,.gone)]⟩:=by
    rw[eu]
    show St.mk _ _=St.mk _ _
    congr 1
    funext i
    by_cases e:i=KK
    ·rw[if_pos e,if_pos e]
    ·rw[if_neg e,if_neg e]
     by_cases e':i=j
     ·rw[if_pos e',if_pos e']
     ·rw[if_neg e',if_neg e']; simp[St.seth,e']
   rw[e3] at h2
   refine hK _ _ (fun i=>if i=KK then β j else β i) F ?_ fun k hk=>?_
   ·rw[hd]
    refine h2.put (.c (.own _ _ _ _ _ _ c1 c2 ?_)) (z0x hE0)
    rcases c3 with c3 |⟨g,q1,q2,q3⟩
    ·exact .inl c3
    ·exact .inr ⟨g,by simpa using q1,q2,q3⟩
   ·refine if_neg fun e=>?_
    rw[e] at hk
    simp[z0N] at hk
  ·have h2:=hS.grow (g:=g) h1 hnb hgτ hgb g1 g2 (.row d') (z4S (by simp) hrow hRC hpre)
   have h3:=h2.lose (τ:=⟨τ.tm,z1a τ.hp [(KK,.row d'),(j,.gone)]⟩) rfl (fun i=>by
    show z1a τ.hp [(KK,.row d'),(j,.gone)] i=(if i=KK then .row d' else τ.hp i)∨z1a τ.hp [(KK,.row d'),(j,.gone)] i= .gone
    rw[eu]
    dsimp only
    by_cases e:i=KK
    ·rw[if_pos e,if_pos e]; exact .inl rfl
    ·rw[if_neg e,if_neg e]
     by_cases e':i=j
     ·rw[if_pos e']; exact .inr rfl
     ·rw[if_neg e']; exact .inl rfl)
   refine hK _ _ (fun i=>if i=KK then some g else β i) F ?_ fun k hk=>?_
   ·rw[hd]
    exact h3.put (.c (.own _ _ _ _ _ _ c1 c2 (.inr ⟨g,by simp,rfl,cur,hrow,hcap⟩))) (z0x hE0)
   ·refine if_neg fun e=>?_
    rw[e] at hk
    simp[z0N] at hk
 ·rw[eu,hd]
  have:(fun i=>if i=KK then(.row d':Blk) else if i=j then .gone else σ.hp i)=((σ.seth j .gone).seth KK (.row d')).hp:=rfl
  rw[this]
  exact hk
theorem zl0 {F:Nat→Prop} {w:World} {d:Leaf} {ad:Option Addr} {c:Nat} (h:z0f d=0) (hs:szD d≠0) (hc:c≤maxLen):LfR F w d (.slice ad 0 c):=by
 cases d with
 | ints k l=>
   obtain rfl:=List.eq_nil_of_length_eq_zero h
   exact .ints k [] ad 0 c rfl (Nat.zero_le _) hc fun h=>absurd rfl h
 | recs s l=>
   obtain rfl:=List.eq_nil_of_length_eq_zero h
   exact .recs s [] ad 0 c (fun _ _=>undef) rfl (Nat.zero_le _) hc (fun r hr=>by cases hr) (fun h=>absurd rfl h) (fun i r j x hi=>by simp at hi)
 | v=>exact absurd rfl hs
 | obj=>exact absurd rfl hs
theorem zkg {ns b own:List Nat} {bs:List (List Nat×List Nat)} {l:List Oper} {K:St→Prop} {t e:TypeId} {sz by_ mm:Nat} {dd:Option Nat} {c:Call} {x y:Operand} {px qs:List Prop} {j len:Nat} {d d2 d':Leaf} (hop:o.op= .call c) (hc:c.callee= .builtin .append) (ha:c.args.toList= [x,y]) (hty:c.argTypes.toList= [t,t]) (hg:o.guard=none) (hd:o.dst=dd) (hE0:z0e E.n dd=true)
  (hE:Elt P t e sz by_) (hx:ox ⟨σ.tm,fgt b σ.hp⟩ x=(px,.c (.own j sz 0 len))) (hb:σ.hp j= .row d) (hy:z1B ⟨σ.tm,fgt b σ.hp⟩ (ox ⟨σ.tm,fgt b σ.hp⟩ y)=some (qs,d2)) (hp:z03 (px++qs)) (hdd:z40 (z0Q len d) d2=some d') (hszd:szD d=sz∧sz≠0∧len≤z0f d)
  (hlim:len+z0f d2≤4294967296∧by_≤4096) (hjb:z0c j b=false) (hjo:z0c j own=true) (hnb:E.nb=mm) (hjn:Nat.ble mm j=true) (hlv:(List.range mm).all (fun i=>match z0c i b,σ.hp i with | false,.gone=>false | true,_=>false | _,_=>true)=true)
  (hk:z0a P E ops ns bs l ((σ.seth j .gone).put dd (.c (.lf d'))) K):z0a P E ops ns ((b,own)::bs) (o::l) σ K:=by
 have eu:∀ hp:Nat→Blk,z1a hp [(j,.gone)]=fun i=>if i=j then .gone else hp i:=fun hp=>z5U hp _ _
 have hjnb:E.nb≤j:=by rw[hnb]; exact Nat.le_of_ble_eq_true hjn
 obtain⟨el,es⟩:=zjb hdd hszd.2.2 (by rw[hszd.1]; exact hszd.2.1)
 refine z3r (x:= .c (.lf d')) (u:= [(j,.gone)]) ?_ (zcV hjo) ?_
 ·intro τ hl β F a w hS hnn K Q hK
  rw[show Region.wanted o (yielded ops a.tmps)=true by simp[Region.wanted,hg],if_pos rfl]
  have hjτ:τ.hp j= .row d:=by rw[hl.hp _ hjb]; exact hb
  have hlive:∀ i,i<E.nb→τ.hp i≠ .gone:=by
   intro i hi
   rw[hnb] at hi
   have h:=List.all_eq_true.1 hlv i (List.mem_range.2 hi)
   cases hb:z0c i b with
   | true=>simp[hb] at h
   | false=>
     rw[hl.hp i hb]
     intro e
     simp[hb,e] at h
  have e1:ox τ x=ox σ x:=hl.ox x (by rw[hop]; simp[Op.operands,Call.operands,ha,hc])
  have e2:ox τ y=ox σ y:=hl.ox y (by rw[hop]; simp[Op.operands,Call.operands,ha,hc])
  obtain⟨v,w',hrun,hres⟩:=zcU (hS.cut hl) hS hop hc ha hty hE (by rw[←hx]; exact e1) hjτ (by
   rw[←hy]
   have:ox ⟨τ.tm,fgt b σ.hp⟩ y=ox ⟨σ.tm,fgt b σ.hp⟩ y:=e2
   rw[this]; exact congrFun (zei rfl) _) hp hdd hszd hlim
  unfold Oper.wp
  rw[hrun]
  have eh:∀ st:St,st.tm=τ.tm→(∀ i,i≠j→st.hp i=τ.hp i)→(⟨st.tm,(st.seth j .gone).hp⟩:St)=⟨τ.tm,z1a τ.hp [(j,.gone)]⟩:=by
   intro st h1 h2
   rw[eu,h1]
   show St.mk _ _=St.mk _ _
   congr 1
   funext i
   by_cases e:i=j
   ·simp[St.seth,e]
   ·simp[St.seth,e,h2 i e]
  rcases hres with ⟨hS2,ad,cap,rfl,c1,c2,c3⟩ |⟨g,cap,cur,vs,rfl,c1,c2,hgb,g1,g2,hrow,hcap,hRC,hpre⟩
  ·have hnj:(τ.seth j (.row d')).hp j≠ .gone:=by simp[St.seth]
   have h2:=hS2.melt hnj hjnb (fun i hi=>by
    by_cases e:i=j
    ·rw[e]; exact hnj
    ·simp only[St.seth,e,if_false]; exact hlive i hi)
   have e3:(τ.seth j (.row d')).seth j .gone=⟨τ.tm,z1a τ.hp [(j,.gone)]⟩:=by
    rw[←eh (τ.seth j (.row d')) rfl (fun i hi=>by simp[St.seth,hi])]
    rfl
   rw[e3] at h2
   refine hK _ _ β (fun b=>F b∨β j=some b) ?_ fun _ _=>rfl
   rw[hd]
   refine h2.put (.c (.lf ?_)) (z0x hE0)
   rcases c3 with c3 |⟨g,q1,rfl,cur,q3,q4⟩
   ·have h0:len+z0f d2=0:=by omega
    rw[h0]
    exact zl0 (by omega) (by rw[es,hszd.1]; exact hszd.2.1) c2
   ·have hB:=hS2.hp j
    have hB:z0p β F w' j (.row d'):=by simpa[St.seth] using hB
    obtain⟨vs,r1,r2⟩:=z5w q1 q3 hB
    refine RC.toLf (F:=F) r1 (fun b h=> .inl h) (.inr q1) (fun i v hv=>?_) el.symm c1 c2
    rw[q3.cell]
    exact r2 i v hv
  ·have hgr:Grow w w':=⟨hgb.os,hgb.tape,hgb.output,hgb.size,fun k hk=>hgb.block k hk (by simp)⟩
   have h2:=hS.grown hgr (F':=fun b=>F b∨b=g) (fun b h=> .inl h) (fun b hb'=>by
    rcases hb' with h | h
    ·exact .inl h
    ·exact .inr (by omega))
   have h3:=h2.lose (τ:=⟨τ.tm,z1a τ.hp [(j,.gone)]⟩) rfl (fun i=>by
    show z1a τ.hp [(j,.gone)] i=τ.hp i∨z1a τ.hp [(j,.gone)] i= .gone
    rw[eu]
    dsimp only
    by_cases e':i=j
    ·rw[if_pos e']; exact .inr rfl
    ·rw[if_neg e']; exact .inl rfl)
   refine hK _ _ β (fun b=>F b∨b=g) ?_ fun _ _=>rfl
   rw[hd]
   refine h3.put (.c (.lf (RC.toLf (F:=F) hRC (fun b h=> .inl h) (.inr rfl) (fun i v hv=>?_) el.symm c1 c2))) (z0x hE0)
   rw[hrow.cell]
   exact hpre i v hv
 ·rw[eu,hd]
  exact hk
end
end Go.Sx

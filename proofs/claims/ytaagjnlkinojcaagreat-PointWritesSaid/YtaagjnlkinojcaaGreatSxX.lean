/-
  The layer of abstract states over Code.wp. No condition.
-/
import Derived.Test.YtaagjnlkinojcaaGreatSxM
import Derived.StillTail
import Derived.Lib.ConvBytes
import Derived.Laws.BytesArg
import Derived.Laws.Cover3
import Derived.WalkSpells
import Derived.Laws.IdiomCopy
namespace Go.Sx
open Go
set_option linter.unusedVariables false
theorem SRb.grow {E:Env} {β:Nat→Option Nat} {F:Nat→Prop} {σ:St} {a:Act} {w w':World} (h:SRb E β F σ a w) {j g:Nat} (hj:β j=none) (hjb:E.nb≤j) (hgone:σ.hp j= .gone)
  (hg:w.grownBy w' none) (h1:w.heap.size≤g) (h2:g<w'.heap.size) (blk:Blk) (hblk:z0p (fun i=>if i=j then some g else β i) F w' j blk):
  SRb E (fun i=>if i=j then some g else β i) F (σ.seth j blk) a w':=by
 have hβ:∀ i g',β i=some g'→(if i=j then some g else β i)=some g':=by
  intro i g' hi
  rw[if_neg (by intro e; subst e; rw[hj] at hi; cases hi)]; exact hi
 have hs:∀ k,k<w.heap.size→w'.heap[k]? =w.heap[k]?:=fun k hk=>hg.block k hk (by simp)
 have hF:∀ b,F b→w'.heap[b]? =w.heap[b]?:=fun b hb=>hs b (h.fr b hb).1
 have hC:∀ g n,z0X w g n→z0X w' g n:=fun g n hc=>hc.same (hs g hc.lt)
 have hA:∀ {x:Av} {v:Value},AvR β F w x v→AvR (fun i=>if i=j then some g else β i) F w' x v:=fun hx=>hx.mono hβ (fun b hb=>⟨hb,hF b hb⟩) hC
 refine⟨fun i=>hA (h.tm i),h.sz,h.df,fun i=>?_,fun i k g' hi hk e1 e2=>?_,fun i g' hi e=>?_,fun i g' e=>?_,fun b hb=>?_,?_,fun i hi=>by rw[if_neg (by omega)]; exact h.bb i hi,h.nbl⟩
 ·by_cases hij:i=j
  ·subst hij; simpa[St.seth] using hblk
  ·simp only[St.seth,hij,if_false]
   exact(h.hp i).mono hβ (by simp[hij]) hF hC (fun g' hg'=>hs g' (h.lt i g' hg'))
 ·by_cases hij:i=j
  ·by_cases hkj:k=j
   ·rw[hij,hkj]
   ·simp only[hij,if_true,Option.some.injEq] at e1
    simp only[hkj,if_false] at e2
    have:=h.lt k g' e2
    omega
  ·by_cases hkj:k=j
   ·simp only[hij,if_false] at e1
    simp only[hkj,if_true,Option.some.injEq] at e2
    have:=h.lt i g' e1
    omega
   ·simp only[hij,if_false] at e1
    simp only[hkj,if_false] at e2
    simp only[St.seth,hij,hkj,if_false] at hi hk
    exact h.inj i k g' hi hk e1 e2
 ·by_cases hij:i=j
  ·simp only[hij,if_true,Option.some.injEq] at e
   subst e
   refine⟨h2,.inl (Nat.le_trans h.keep.size h1),fun hf=>?_⟩
   have:=(h.fr _ hf).1
   omega
  ·simp only[hij,if_false] at e
   simp only[St.seth,hij,if_false] at hi
   obtain⟨a1,a2,a3⟩:=h.own i g' hi e
   exact⟨Nat.lt_of_lt_of_le a1 hg.size,a2,a3⟩
 ·by_cases hij:i=j
  ·simp only[hij,if_true,Option.some.injEq] at e
   subst e; exact h2
  ·simp only[hij,if_false] at e
   exact Nat.lt_of_lt_of_le (h.lt i g' e) hg.size
 ·obtain⟨a1,a2⟩:=h.fr b hb
  exact⟨Nat.lt_of_lt_of_le a1 hg.size,a2⟩
 ·exact⟨hg.os.trans h.keep.os,hg.tape.trans h.keep.tape,hg.output.trans h.keep.output,Nat.le_trans h.keep.size hg.size,fun k hk hm=>(hs k (Nat.lt_of_lt_of_le hk h.keep.size)).trans (h.keep.block k hk hm),fun g n hc=>hC g n (h.keep.cap g n hc)⟩
theorem SRb.forget {E:Env} {β:Nat→Option Nat} {F:Nat→Prop} {σ:St} {a:Act} {w:World} (h:SRb E β F σ a w) (j:Nat) {blk:Blk} (hj:σ.hp j=blk) (hk:blk.kill j=blk):SRb E β F ((σ.kill j).seth j blk) a w:=by
 have hβ:∀ i,i≠j→β i=β i:=fun i hi=>rfl
 have hne:∀ i,((σ.kill j).seth j blk).hp i≠ .gone→σ.hp i≠ .gone:=by
  intro i hi
  by_cases hij:i=j
  ·subst hij; rw[hj]; simpa[St.seth] using hi
  ·simp only[St.seth,St.kill,hij,decide_false,if_false] at hi
   exact Blk.kill_ne hi
 refine⟨fun i=>(h.tm i).kill hβ,h.sz,h.df,fun i=>?_,fun i k g hi hk e1 e2=>h.inj i k g (hne i hi) (hne k hk) e1 e2,fun i g hi e=>h.own i g (hne i hi) e,h.lt,h.fr,h.keep,h.bb,h.nbl⟩
 by_cases hij:i=j
 ·subst hij
  have:=h.hp i
  rw[hj] at this
  simpa[St.seth] using this
 ·simp only[St.seth,St.kill,hij,decide_false,if_false]
  exact(h.hp i).kill hβ hij
def z1B (σ:St):List Prop×Av→Option (List Prop×Leaf)
 |(p,.c (.lf (.ints k l)))=>some (p,.ints k l)
 |(p,.c (.lf (.recs sz l)))=>some (p++ [sz≠0],.recs sz l)
 |(p,.c (.own j sz off len))=>
  match σ.hp j with
  | .row (.ints k l)=>
    match off with
    | 0=>some (p++ [sz=1,len≤l.length],.ints k (l.take len))
    | off=>some (p++ [sz=1,off+len≤l.length],.ints k ((l.drop off).take len))
  | .row (.recs sz' l)=>some (p++ [sz=sz',sz≠0,off=0,len≤l.length],.recs sz' (l.take len))
  | _=>none
 | _=>none
theorem z3p {E:Env} {σ:St} {β:Nat→Option Nat} {F:Nat→Prop} {a:Act} {w:World} {x:List Prop×Av} {ps:List Prop} {d:Leaf} {v:Value} (hS:SRb E β F σ a w) (h:z1B σ x=some (ps,d)) (hp:z03 ps) (hx:z03 x.1→AvR β F w x.2 v):
  ∃ ad m c vs,v= .slice ad m c∧m=z0f d∧m≤c∧RC F w d vs∧(vs≠ []→∃ b o,ad=some ⟨b,o,none⟩∧∀(i:Nat) (u:Value),vs[i]? =some u→w.cell? ⟨b,o+i,none⟩=some u):=by
 obtain⟨p,x⟩:=x
 have own:∀ {j sz off len:Nat} {d0:Leaf},σ.hp j= .row d0→szD d0=sz→sz≠0→off+len*sz≤z0f d0*sz→AvR β F w (.c (.own j sz off len)) v→∀ {q:Nat},off=q*sz→
   ∃ ad m c vs,v= .slice ad m c∧m=z0f (z0Q len (z3V q d0))∧m≤c∧RC F w (z0Q len (z3V q d0)) vs∧(vs≠ []→∃ b o,ad=some ⟨b,o,none⟩∧∀(i:Nat) (u:Value),vs[i]? =some u→w.cell? ⟨b,o+i,none⟩=some u):=by
  intro j sz off len d0 hb hsz hsz0 hle hv q hq
  have hpos:0<sz:=Nat.pos_of_ne_zero hsz0
  have hB:=hS.hp j
  rw[hb] at hB
  cases hv with | c hv=>cases hv with | own _ _ _ _ ad c hc hm hh=>
  have hszs:∀ n,szD (z0Q n (z3V q d0))=szD d0:=by intro n; cases d0<;>rfl
  have hszq:szD (z3V q d0)=szD d0:=by cases d0<;>rfl
  have hll:len≤z0f (z3V q d0):=by
   have h1:q*sz+len*sz≤z0f d0*sz:=by rw[←hq]; exact hle
   rw[←Nat.add_mul] at h1
   have h2:=Nat.le_of_mul_le_mul_right h1 hpos
   cases d0<;>simp only[z0f,z3V,List.length_drop] at h2 ⊢ <;>(try omega)
   all_goals (simp[szD] at hsz; omega)
  have hlen:len=z0f (z0Q len (z3V q d0)):=by
   cases d0<;>simp only[z0f,z3V,z0Q,List.length_drop,List.length_take] at hll ⊢ <;>omega
  rcases hh with rfl |⟨g,hg,rfl,cur,hrow,hcap⟩
  ·have h0:len=0:=by omega
   subst h0
   -- nothing
   have:∃ vs0,RC F w d0 vs0∨True:=⟨[],.inr trivial⟩
   refine⟨ad,0,0,[],rfl,hlen,Nat.le_refl _,?_,fun h=>absurd rfl h⟩
   cases d0 with
   | ints k l=>simp[RC,z0Q,z3V]
   | recs s l=>exact⟨by simp,fun r hr=>by simp at hr,fun i r k x hi=>by simp at hi⟩
   | v=>simp[szD] at hsz; omega
   | obj=>simp[szD] at hsz; omega
  ·obtain⟨vs,hr,hvs⟩:=z5w hg hrow hB
   have hr2:=(hr.drop q).take len
   refine⟨_,len,c,_,rfl,hlen,hc,hr2,fun hne=>⟨g,off,rfl,fun i u hu=>?_⟩⟩
   rw[List.getElem?_take] at hu
   split at hu
   ·rw[List.getElem?_drop] at hu
    rw[hrow.cell,hq,←hsz]
    exact hvs _ u hu
   ·cases hu
 unfold z1B at h
 split at h
 ·rename_i h1
  simp only[Prod.mk.injEq] at h1; obtain⟨rfl,rfl⟩:=h1
  simp only[Option.some.injEq,Prod.mk.injEq] at h; obtain⟨rfl,rfl⟩:=h
  have hv:=hx hp
  cases hv with | c hv=>cases hv with | lf hv=>
  have hv':=hv
  cases hv with | ints _ _ ad n c hn hc hm hh=>
  obtain⟨e1,e2,e3,vs,e4,e5⟩:=hv'.cells (by simp[szD])
  exact⟨ad,n,c,vs,rfl,e1,e2,e4,fun hne=>let ⟨b,o,h1,h2,h3⟩:=e5 hne; ⟨b,o,h1,h3⟩⟩
 ·rename_i h1
  simp only[Prod.mk.injEq] at h1; obtain⟨rfl,rfl⟩:=h1
  simp only[Option.some.injEq,Prod.mk.injEq] at h; obtain⟨rfl,rfl⟩:=h
  have hv:=hx hp.left
  cases hv with | c hv=>cases hv with | lf hv=>
  have hv':=hv
  cases hv with | recs _ _ ad n c vv hn hc hm hh=>
  obtain⟨e1,e2,e3,vs,e4,e5⟩:=hv'.cells hp.right
  exact⟨ad,n,c,vs,rfl,e1,e2,e4,fun hne=>let ⟨b,o,h1,h2,h3⟩:=e5 hne; ⟨b,o,h1,h3⟩⟩
 ·rename_i j sz off len h1
  simp only[Prod.mk.injEq] at h1; obtain⟨rfl,rfl⟩:=h1
  split at h
  ·rename_i k l hb
   split at h
   ·simp only[Option.some.injEq,Prod.mk.injEq] at h; obtain⟨rfl,rfl⟩:=h
    obtain⟨c1,c2⟩:=hp.right
    subst c1
    have c2':len≤l.length:=c2
    have:=own (sz:=1) hb rfl (by decide) (by simp[z0f]; omega) (hx hp.left) (q:=0) (by omega)
    simpa[z3V,z0Q] using this
   ·simp only[Option.some.injEq,Prod.mk.injEq] at h; obtain⟨rfl,rfl⟩:=h
    obtain⟨c1,c2⟩:=hp.right
    subst c1
    have c2':off+len≤l.length:=c2
    exact own (sz:=1) hb rfl (by decide) (by simp[z0f]; omega) (hx hp.left) (q:=off) (by omega)
  ·rename_i sz' l hb
   simp only[Option.some.injEq,Prod.mk.injEq] at h; obtain⟨rfl,rfl⟩:=h
   obtain⟨c1,c2,c3,c4⟩:=hp.right
   subst c1; subst c3
   have c4':len≤l.length:=c4
   have:=own hb rfl c2 (by simp only[z0f,Nat.zero_add]; exact Nat.mul_le_mul_right _ c4') (hx hp.left) (q:=0) (by omega)
   simpa[z3V,z0Q] using this
  ·cases h
 ·cases h
section
variable {P:Program} {E:Env} {ops:Array Oper} {Q:Exit→Act→World→Prop} {rest:List Oper} {o:Oper} {σ:St}
theorem z0K {x y:Operand} {t t':TypeId} {c:Call} {a:Act} {w:World} {v:Value} {w':World} (hop:o.op= .call c) (hc:c.callee= .builtin .append) (ha:c.args= #[x,y]) (ht:c.argTypes= #[t,t'])
  (h:(Builtin.append_ #[t,t'] o.type #[a.eval x,a.eval y]).run P w= .ok v w'):(execOp a.eval o).run P w= .ok (.value v) w':=by
 simp only[execOp,hop,resolve,hc,ha,ht,Sem.run_bind,Sem.run_pure,Result.andThen_ok,invoke,builtin]
 simp only[List.map_toArray,List.map_cons,List.map_nil,h,Result.andThen_ok]
theorem zcC {t e:TypeId} {sz by_:Nat} {c:Call} {x y:Operand} {px qs:List Prop} {j len:Nat} {d d2 d':Leaf} (hop:o.op= .call c) (hc:c.callee= .builtin .append) (ha:c.args.toList= [x,y]) (hty:c.argTypes.toList= [t,t]) (hg:o.guard=none) (hd:z0e E.n o.dst=true)
  (hE:Elt P t e sz by_) (hx:ox σ x=(px,.c (.own j sz 0 len))) (hb:σ.hp j= .row d) (hj64:Nat.ble 64 j=true) (hy:z1B σ (ox σ y)=some (qs,d2)) (hp:z03 (px++qs)) (hdd:z40 (z0Q len d) d2=some d') (hszd:szD d=sz∧sz≠0∧len≤z0f d)
  (hlim:len+z0f d2≤4294967296∧by_≤4096)
  (hk:WL P E ops Q rest (((σ.kill j).seth j (.row d')).put o.dst (.c (.own j sz 0 (len+z0f d2))))):WL P E ops Q (o::rest) σ:=by
 refine z4l hg _ (fun a w hS=>?_) hk
 obtain⟨β,F,hS⟩:=hS
 have hv1:=oxR hS x
 rw[hx] at hv1
 have hv1:=hv1 hp.left
 obtain⟨ad,m,cs,news,hv2,hm,hmc,hr2,hcell⟩:=z3p hS hy hp.right (oxR hS y)
 have hca:c.args= #[x,y]:=by apply Array.toList_inj.1; simpa using ha
 have hct:c.argTypes= #[t,t]:=by apply Array.toList_inj.1; simpa using hty
 generalize he1:a.eval x=v1 at hv1
 dsimp only at hv1
 cases hv1 with | c hv1=>cases hv1 with | own _ _ _ _ ao cap hlc hmx hh=>
 obtain⟨hs1,hs2,hs3⟩:=hszd
 obtain⟨hl1,hl2⟩:=hlim
 have hpos:0<sz:=Nat.pos_of_ne_zero hs2
 obtain⟨ht,i,z,hi,hz,hsz,hby,hzs⟩:=hE
 have hjn:E.nb≤j:=by have:=hS.nbl; have:64≤j:=by simpa using hj64
                     omega
 have hgone:σ.hp j≠ .gone:=by rw[hb]; intro h; cases h
 have hB:=hS.hp j
 rw[hb] at hB
 have hsz2:szD d2=sz:=by
  have:szD (z0Q len d)=szD d:=by cases d<;>rfl
  cases d<;>cases d2<;>simp only[z0Q,z40] at hdd<;>(try cases hdd)
  ·simp only[szD] at hs1 ⊢; exact hs1
  ·split at hdd
   ·rename_i hk'; simp only[decide_eq_true_eq] at hk'; simp only[szD] at hs1 ⊢; omega
   ·cases hdd
 have hnl:news.length=m*sz:=by rw[hr2.length,hm,hsz2]
 have hbytes:(len+m)*by_≤140737488355328:=by
  have:(len+m)*by_≤4294967296*4096:=Nat.mul_le_mul (by omega) hl2
  omega
 have h63:len+m≤maxLen:=by simp only[maxLen]; omega
 -- the old cells
 have hold:∃ olds,RC F w (z0Q len d) olds∧olds.length=len*sz∧∀ g cur,β j=some g→Row w g cur→∀(i:Nat) (v:Value),olds[i]? =some v→cur[i]? =some v:=by
  by_cases hβ:∃ g cur,β j=some g∧Row w g cur
  ·obtain⟨g,cur,hg',hrow⟩:=hβ
   obtain⟨vs,h1,h2⟩:=z5w hg' hrow hB
   have ht':=h1.take len
   refine⟨_,ht',?_,fun g2 cur2 e1 e2 i v hv=>?_⟩
   ·rw[ht'.length]
    have h3:szD (z0Q len d)=szD d:=by cases d<;>rfl
    have h4:z0f (z0Q len d)=len:=by cases d<;>simp only[z0f,z0Q,List.length_take] at hs3 ⊢ <;>(try omega)
    rw[h3,h4,hs1]
   ·rw[hg'] at e1
    obtain rfl:=Option.some.inj e1
    have:cur2=cur:=by
     obtain⟨t1,f1,k1,_⟩:=e2
     obtain⟨t2,f2,k2,_⟩:=hrow
     rw[k1] at k2
     simp only[Option.some.injEq,Obj.cells.injEq] at k2
     exact k2.1
    subst this
    rw[List.getElem?_take] at hv
    split at hv
    ·exact h2 i v hv
    ·cases hv
  ·have hl0:len=0:=by
    cases d with
    | ints k l=>
      rcases hB with ⟨h,_⟩ |⟨g,cur,h1,h2,_⟩
      ·subst h; simpa[z0f] using hs3
      ·exact absurd ⟨g,cur,h1,h2⟩ hβ
    | recs s l=>
      rcases hB.2 with ⟨h,_⟩ |⟨g,cur,h1,h2,_⟩
      ·subst h; simpa[z0f] using hs3
      ·exact absurd ⟨g,cur,h1,h2⟩ hβ
    | v=>exact hB.elim
    | obj=>exact hB.elim
   subst hl0
   refine⟨[],?_,by simp,fun g cur h1 h2=>absurd ⟨g,cur,h1,h2⟩ hβ⟩
   cases d with
   | ints k l=>simp[RC,z0Q]
   | recs s l=>exact⟨by simp,fun r hr=>by simp at hr,fun i r k x hi=>by simp at hi⟩
   | v=>exact hB.elim
   | obj=>exact hB.elim
 obtain⟨olds,ho1,ho2,ho3⟩:=hold
 have hnone:ad=none→m=0:=fun h=>by
  rcases Nat.eq_zero_or_pos m with h0 | h0
  ·exact h0
  ·have hne:news≠ []:=by
    intro h'
    rw[h'] at hnl
    have:=Nat.mul_pos h0 hpos
    simp at hnl; omega
   obtain⟨b,o',h1,_⟩:=hcell hne
   rw[h] at h1; cases h1
 by_cases hroom:len+m≤cap
 · -- there is room
   rcases hh with rfl |⟨g,hgj,rfl,hcap⟩
   · -- nothing at all
     have hl0:len=0:=by omega
     have hm0:m=0:=by omega
     subst hl0
     have hn0:news= []:=List.eq_nil_of_length_eq_zero (by rw[hnl,hm0]; simp)
     have hrun:(Builtin.append_ #[t,t] o.type #[.slice ao 0 0,.slice ad m cs]).run P w= .ok (.slice ao 0 0) w:=by
      subst hm0
      have hfc:(Builtin.firstCells sz 0 (.slice ad 0 cs)).run P w= .ok #[] w:=by
       cases ad with
       | none=>simp[Builtin.firstCells]
       | some b=>simp[Builtin.firstCells,loadCells,loadCellsFrom]
      cases ao with
      | none=>simp[Builtin.append_,run_underlying ht,sizeOf,typeInfo,hi,hsz,Builtin.lenOf,hfc]
      | some b=>simp[Builtin.append_,run_underlying ht,sizeOf,typeInfo,hi,hsz,Builtin.lenOf,hfc,storeCells]
     refine⟨_,w,z0K hop hc hca hct (by rw[he1,hv2]; exact hrun),β,F,?_⟩
     have hlen':z0f d'=0:=by
      obtain⟨_,h2,_⟩:=ho1.app hr2 hdd
      have h4:z0f (z0Q 0 d)=0:=by cases d<;>simp[z0f,z0Q]
      omega
     have hblk:z0p β F w j (.row d'):=by
      obtain⟨hr',h2,h3,_⟩:=ho1.app hr2 hdd
      cases d' with
      | ints k l=>
        refine .inl ⟨List.eq_nil_of_length_eq_zero hlen',fun g hg'=>?_⟩
        cases d with
        | ints k2 l2=>
          rcases hB with ⟨_,h⟩ |⟨g2,cur,h1,h2',_⟩
          ·exact h g hg'
          ·rw[hg'] at h1; obtain rfl:=Option.some.inj h1; exact⟨cur,h2',Nat.zero_le _⟩
        | recs s2 l2=>
          rcases hB.2 with ⟨_,h⟩ |⟨g2,cur,h1,h2',_⟩
          ·exact h g hg'
          ·rw[hg'] at h1; obtain rfl:=Option.some.inj h1; exact⟨cur,h2',Nat.zero_le _⟩
        | v=>exact hB.elim
        | obj=>exact hB.elim
      | recs s l=>
        have hl:l= []:=List.eq_nil_of_length_eq_zero hlen'
        subst hl
        refine⟨fun r hr=>by simp at hr,.inl ⟨rfl,fun g hg'=>?_⟩⟩
        cases d with
        | ints k2 l2=>
          rcases hB with ⟨_,h⟩ |⟨g2,cur,h1,h2',_⟩
          ·exact h g hg'
          ·rw[hg'] at h1; obtain rfl:=Option.some.inj h1; exact⟨cur,h2',Nat.zero_le _⟩
        | recs s2 l2=>
          rcases hB.2 with ⟨_,h⟩ |⟨g2,cur,h1,h2',_⟩
          ·exact h g hg'
          ·rw[hg'] at h1; obtain rfl:=Option.some.inj h1; exact⟨cur,h2',Nat.zero_le _⟩
        | v=>exact hB.elim
        | obj=>exact hB.elim
      | v=>exact hr'.elim
      | obj=>exact hr'.elim
     have hS2:SRb E β F (σ.seth j (.row d')) a w:=by
      have hne:∀ i,(σ.seth j (.row d')).hp i≠ .gone→σ.hp i≠ .gone:=by
       intro i hi'
       by_cases e':i=j
       ·rw[e']; exact hgone
       ·simpa[St.seth,e'] using hi'
      refine⟨hS.tm,hS.sz,hS.df,fun i=>?_,fun i k g hi' hk' e1 e2=>hS.inj i k g (hne i hi') (hne k hk') e1 e2,fun i g hi' e1=>hS.own i g (hne i hi') e1,hS.lt,hS.fr,hS.keep,hS.bb,hS.nbl⟩
      by_cases e':i=j
      ·subst e'; simpa[St.seth] using hblk
      ·simp only[St.seth,e',if_false]; exact hS.hp i
     have hS3:=hS2.forget j (blk:= .row d') (by simp[St.seth]) rfl
     have e3:((σ.seth j (.row d')).kill j).seth j (.row d')=(σ.kill j).seth j (.row d'):=by
      simp only[St.seth,St.kill,St.mk.injEq]
      refine⟨trivial,funext fun i=>?_⟩
      by_cases e':i=j<;>simp[e']
     rw[e3] at hS3
     refine hS3.put (.c ?_) (z0x hd)
     rw[←hm,hm0]
     exact .own _ _ _ _ _ _ (by omega) (by omega) (.inl rfl)
   · -- in place
     obtain⟨cur,hrow,hcap⟩:=hcap
     have hcur:=ho3 g cur hgj hrow
     obtain⟨_,_,hnF⟩:=hS.own j g hgone hgj
     have hle:len*sz+news.length≤cur.size:=by
      rw[hnl,←Nat.add_mul]
      exact Nat.le_trans (Nat.mul_le_mul_right _ hroom) (by omega)
     obtain⟨w',r1,r2⟩:=z1q (P:=P) (g:=g) (off:=len*sz) news 0 w cur hr2.one hrow (by omega)
     simp only[Nat.add_zero] at r2
     have hls:=z3K hle
     have hfc:(Builtin.firstCells sz m (.slice ad m cs)).run P w= .ok news.toArray w:=by
      cases had:ad with
      | none=>
        have:=hnone had
        subst this
        have:news= []:=List.eq_nil_of_length_eq_zero (by rw[hnl]; simp)
        subst this
        simp[Builtin.firstCells]
      | some b=>
        by_cases hne:news= []
        ·have:m*sz=0:=by rw[←hnl,hne]; rfl
         subst hne
         simp[Builtin.firstCells,this,loadCells,loadCellsFrom]
        ·obtain⟨b',o',h1,h2⟩:=hcell hne
         rw[had] at h1
         obtain rfl:=Option.some.inj h1
         simp only[Builtin.firstCells]
         exact z29 h2 hnl.symm
     have hrun:(Builtin.append_ #[t,t] o.type #[.slice (some ⟨g,0,none⟩) len cap,.slice ad m cs]).run P w= .ok (.slice (some ⟨g,0,none⟩) (len+m) cap) w':=by
      simp[Builtin.append_,run_underlying ht,sizeOf,typeInfo,hi,hsz,Builtin.lenOf,hroom,hfc,z0D,r1]
     refine⟨_,w',z0K hop hc hca hct (by rw[he1,hv2]; exact hrun),β,F,?_⟩
     obtain⟨hr',_,_,_⟩:=ho1.app hr2 hdd
     have hS2:=(hS.written hgone hgj hrow r2 hls (blk:= .row d') (z4S hgj r2.row (r2.leafs hnF hr') (fun i v hv=>by
      rw[z3B hle]
      rw[List.getElem?_append,ho2] at hv
      by_cases h1:i<len*sz
      ·rw[if_pos h1] at hv ⊢
       exact hcur i v hv
      ·rw[if_neg h1] at hv ⊢
       have:=(List.getElem?_eq_some_iff.1 hv).1
       rw[if_pos (by omega)]
       exact hv))).1
     have hS3:=hS2.forget j (blk:= .row d') (by simp[St.seth]) rfl
     have e3:((σ.seth j (.row d')).kill j).seth j (.row d')=(σ.kill j).seth j (.row d'):=by
      simp only[St.seth,St.kill,St.mk.injEq]
      refine⟨trivial,funext fun i=>?_⟩
      by_cases e':i=j<;>simp[e']
     rw[e3] at hS3
     refine hS3.put (.c ?_) (z0x hd)
     rw[←hm]
     exact .own _ _ _ _ _ _ hroom hmx (.inr ⟨g,hgj,rfl,_,r2.row,by rw[hls]; exact hcap⟩)
 · -- a new array
   have hmpos:0<m:=by omega
   have hne:news≠ []:=by
    intro h'
    rw[h'] at hnl
    have:=Nat.mul_pos hmpos hpos
    simp at hnl; omega
   obtain⟨b,o',hb0,hcell2⟩:=hcell hne
   subst hb0
   have hgrow:∃ v' w',(Builtin.append_ #[t,t] o.type #[.slice ao len cap,.slice (some ⟨b,o',none⟩) m cs]).run P w= .ok v' w'∧w'.ownsRow w.heap.size e sz v' (len+m) (olds++news)∧w.grownBy w' none:=by
    have hcell':∀(k:Nat) (u:Value),news[k]? =some u→w.cell? ((⟨b,o',none⟩:Addr).add k)=some u:=fun k u hu=>by rw[z0D]; exact hcell2 k u hu
    cases ao with
    | none=>
      have hc0:cap=0:=by
       rcases hh with h |⟨g,_,h,_⟩
       ·exact h
       ·cases h
      have hl0:len=0:=by omega
      subst hc0; subst hl0
      have:olds= []:=List.eq_nil_of_length_eq_zero (by rw[ho2]; simp)
      subst this
      obtain⟨v',w',h1,h2,h3,_⟩:=run_append_own (P:=P) w w.heap.size t o.type e i z sz by_ ht hi hz hsz hby hzs hpos (.slice none 0 0) 0 [] (World.ownsRow_nil w _ e sz) ⟨b,o',none⟩ m cs news hnl hcell' hr2.one (by omega) hbytes (Nat.le_refl _)
      exact⟨v',w',h1,h2,h3⟩
    | some b2=>
      exact run_append_arg_grows (P:=P) w t o.type e i z sz by_ ht hi hz hsz hby hzs hpos b2 len cap olds ho2 (fun k u hu=>by
       rcases hh with rfl |⟨g,hgj,h,cur,hrow,hcap⟩
       ·have:len=0:=by omega
        subst this
        have:olds= []:=List.eq_nil_of_length_eq_zero (by rw[ho2]; simp)
        subst this
        simp at hu
       ·obtain rfl:=Option.some.inj h
        rw[z0D,Nat.zero_add,hrow.cell]
        exact ho3 g cur hgj hrow k u hu) ⟨b,o',none⟩ m cs news hnl hcell' (by omega) h63 hbytes
   obtain⟨v',w',hrun,hown,hgb⟩:=hgrow
   refine⟨v',w',z0K hop hc hca hct (by rw[he1,hv2]; exact hrun),?_⟩
   obtain⟨hsz',hown⟩:=hown
   rcases hown with ⟨_,h0⟩ |⟨g',cap',cur',rfl,hg1,hg2,hn1,hn2,hn3,hn4⟩
   ·omega
   ·have hk:=hS.kill j hjn
    have hlt':g'<w'.heap.size:=(Array.getElem?_eq_some_iff.1 hg2).1
    obtain⟨hr',_,_,_⟩:=ho1.app hr2 hdd
    have hrow':Row w' g' cur':=⟨e,(0,0),hg2,.inl rfl⟩
    have hS2:=hk.grow (g:=g') (by simp) hjn (by simp[St.kill]) hgb hg1 hlt' (.row d') (z4S (vs:=olds++news) (by simp) hrow' (hr'.mono fun b' hb'=>⟨hb',hgb.block b' (hS.fr b' hb').1 (by simp)⟩) (fun k u hu=>by
     rw[←hn4,List.getElem?_take] at hu
     split at hu
     ·simpa using hu
     ·cases hu))
    refine⟨_,F,hS2.put (.c ?_) (z0x hd)⟩
    rw[←hm]
    exact .own _ _ _ _ _ _ hn1 hn2 (.inr ⟨g',by simp,rfl,cur',hrow',by rw[hn3]; omega⟩)
end
end Go.Sx
namespace Go.Sx
open Go
set_option linter.unusedVariables false
def z9R (k:IntKind):List Cell→Option (List Int)
 | []=>some []
 | .lf (.v (.int k' n))::l=>match decide (k=k'),z9R k l with | true,some r=>some (n::r) | _,_=>none
 | _::_=>none
def z7T:List Cell→Option (List Leaf)
 | []=>some []
 | .lf x::l=>match z7T l with | some r=>some (x::r) | none=>none
 | _::_=>none
def z5c (sz:Nat):Nat→List Leaf→List (List Leaf)
 | 0,_=> []
 | n+1,l=>l.take sz::z5c sz n (l.drop sz)
def z2H (P:Program) (e:TypeId) (sz n:Nat) (out:List Cell):Option Leaf:=
 match P.underlying e with
 | some (.int k)=>match z9R k out with | some l=>some (.ints k l) | none=>none
 | _=>match z7T out with | some ls=>some (.recs sz (z5c sz n ls)) | none=>none
theorem zb6 {k:IntKind}:∀ {cs:List Cell} {l:List Int},z9R k cs=some l→cs=l.map fun n=> .lf (.v (.int k n)):=by
 intro cs
 induction cs with
 | nil=>intro l h; simp[z9R] at h; subst h; rfl
 | cons c cs ih=>
   intro l h
   cases c with
   | lf x=>
     cases x with
     | v y=>
       cases y with
       | int k' n=>
         simp only[z9R] at h
         split at h
         ·rename_i r e1 e2
          simp only[Option.some.injEq] at h
          subst h
          have:k=k':=by simpa using e1
          subst this
          rw[List.map_cons,←ih e2]
         ·cases h
       | _=>cases h
     | _=>cases h
   | _=>cases h
theorem z77:∀ {cs:List Cell} {l:List Leaf},z7T cs=some l→cs=l.map Cell.lf
 | [],l,h=>by simp[z7T] at h; subst h; rfl
 | .lf x::cs,l,h=>by
   simp only[z7T] at h
   split at h
   ·rename_i r e
    simp only[Option.some.injEq] at h
    subst h
    rw[List.map_cons,←z77 e]
   ·cases h
 | .un::_,_,h=>by cases h
 | .own .. ::_,_,h=>by cases h
 | .ptr .. ::_,_,h=>by cases h
 | .pel .. ::_,_,h=>by cases h
 | .tptr .. ::_,_,h=>by cases h
 | .map .. ::_,_,h=>by cases h
 | .town .. ::_,_,h=>by cases h
 | .fn .. ::_,_,h=>by cases h
 | .bnd .. ::_,_,h=>by cases h
theorem z5V {sz:Nat}:∀(n:Nat) (l:List Leaf),(z5c sz n l).length=n
 | 0,_=>rfl
 | n+1,l=>by simp[z5c,z5V n]
theorem z7U {sz:Nat}:∀(n:Nat) (l:List Leaf) (i:Nat) (r:List Leaf) (k:Nat) (x:Leaf),(z5c sz n l)[i]? =some r→r[k]? =some x→l[i*sz+k]? =some x
 | n+1,l,0,r,k,x,h1,h2=>by
   simp[z5c] at h1; subst h1
   rw[List.getElem?_take] at h2
   split at h2
   ·simpa using h2
   ·cases h2
 | n+1,l,i+1,r,k,x,h1,h2=>by
   have:=z7U n (l.drop sz) i r k x (by simpa[z5c] using h1) h2
   rw[List.getElem?_drop] at this
   rw[←this]
   congr 1
   rw[Nat.add_mul]; omega
theorem z7V {sz:Nat}:∀(n:Nat) (l:List Leaf),n*sz≤l.length→∀ r,r ∈ z5c sz n l→r.length=sz
 | n+1,l,h,r,hr=>by
   rw[Nat.add_mul] at h
   cases hr with
   | head=>simp; omega
   | tail _ hr=>exact z7V n (l.drop sz) (by simp; omega) r hr
section
variable {P:Program} {E:Env} {ops:Array Oper} {Q:Exit→Act→World→Prop} {rest:List Oper} {o:Oper} {σ:St}
theorem zkc {t e:TypeId} {sz by_ n:Nat} {parts:Array (Nat×Operand)} {ps:List Prop} {out:List Cell} {d:Leaf} (hop:o.op= .buildSlice t n parts) (hg:o.guard=none) (hd:z0e E.n o.dst=true) (hE:Elt P t e sz by_) (hz:z01 P e)
  (hf:z1A (fun i=>some (i*sz,sz)) (List.replicate (n*sz) .un) (parts.toList.map fun(i,x)=>(i,ox (fresh σ o.dst) x))=some (ps,out)) (hp:z03 ps) (hdd:z2H P e sz n out=some d) (hn:n*sz≤16777216∧n≤16777216∧z0f d=n∧szD d=sz)
  (hk:WL P E ops Q rest (((fresh σ o.dst).seth (nk o.dst 0) (.row d)).put o.dst (.c (.own (nk o.dst 0) sz 0 n)))):WL P E ops Q (o::rest) σ:=by
 refine z4l hg _ (fun a w hS=>?_) hk
 obtain⟨β,F,hS⟩:=hS
 obtain⟨β',hS',h1,h2,h3⟩:=hS.fresh o.dst
 obtain⟨ht,i,z,hi,hz',hsz,hby,hzs⟩:=hE
 obtain⟨n1,n2,n3,n4⟩:=hn
 -- the row of zeros
 let zs:Array Value:=(Array.range (n*sz)).map ((if n*sz=0 then #[] else z.cells)[· %(if n*sz=0 then(#[]:Array Value) else z.cells).size]!)
 have hzsz:zs.size=n*sz:=by simp[zs]
 have hzo:∀(j:Nat) (u:Value),zs[j]? =some u→u.oneCell'=true:=fun j u hu=>by
  have hlt:=(Array.getElem?_eq_some_iff.1 hu).1
  rw[hzsz] at hlt
  have hne:n*sz≠0:=by omega
  have hszp:0<sz:=Nat.pos_of_mul_pos_left (by omega:0<n*sz)
  have hm:j%z.cells.size<z.cells.size:=Nat.mod_lt _ (by omega)
  have:u=z.cells[j%z.cells.size]:=by
   simp only[zs,hne,if_false,Array.getElem?_map,Array.getElem?_range,hlt,if_true,Option.map_some,Option.some.injEq] at hu
   rw[←hu]
   simp[hm]
  rw[this]
  exact List.all_eq_true.1 (hz i z hi hz') _ (by simp)
 have hpl:z5I β' F w (parts.toList.map fun(i,x)=>(i,ox (fresh σ o.dst) x)) (parts.toList.map fun(i,x)=>(i,a.eval x)):=z4r hS' parts.toList
 obtain⟨r,g1,g2,g3⟩:=z43 _ _ _ zs ps out hf hp (by simp[hzsz]) (fun j y u hy hu=>by
  rw[List.getElem?_replicate] at hy
  split at hy
  ·simp at hy; subst hy; exact .un (hzo j u hu)
  ·cases hy) hpl
 have hrun:(Instr.buildSlice t n (parts.map fun(i,x)=>(i,a.eval x))).run P w= .ok (.slice (some ⟨w.heap.size,0,none⟩) n n) (w.alloc (.cells r e)):=by
  have e1:(parts.map fun(i,x)=>(i,a.eval x)).toList=parts.toList.map fun(i,x)=>(i,a.eval x):=by simp
  have e2:¬ (n*sz>2^24):=by omega
  unfold Instr.buildSlice
  simp only[Sem.run_bind,run_underlying ht,Result.andThen_ok,sizeOf,typeInfo,run_program,hi,Sem.run_pure,hsz,e1]
  rw[if_neg e2]
  by_cases h0:n*sz=0
  ·have:zs=(Array.range (n*sz)).map ((#[]:Array Value)[· %(#[]:Array Value).size]!):=by simp[zs,h0]
   rw[this] at g1
   simp only[h0,if_true,Sem.run_pure,Sem.run_bind,Result.andThen_ok] at g1 ⊢
   rw[g1]
   rfl
  ·have:zs=(Array.range (n*sz)).map (z.cells[· %z.cells.size]!):=by simp[zs,h0]
   rw[this] at g1
   simp only[h0,if_false,Sem.run_pure,Sem.run_bind,Result.andThen_ok,zeroValue,typeInfo,run_program,hi,hz']
   rw[g1]
   rfl
 have hRC:RC F w d r.toList:=by
  unfold z2H at hdd
  split at hdd
  ·rename_i k hk'
   split at hdd
   ·rename_i l hl
    simp only[Option.some.injEq] at hdd
    subst hdd
    have ho:=zb6 hl
    subst ho
    simp only[RC]
    apply List.ext_getElem?
    intro j
    rw[List.getElem?_map]
    cases hj:l[j]? with
    | none=>
      have:r.toList[j]? =none:=by
       rw[List.getElem?_eq_none_iff] at hj ⊢
       simp[g2]; simpa using hj
      rw[this]; rfl
    | some x=>
      have hlt:=(List.getElem?_eq_some_iff.1 hj).1
      have hlt':j<r.size:=by rw[g2]; simpa using hlt
      have:=g3 j (.lf (.v (.int k x))) r[j] (by rw[List.getElem?_map,hj]; rfl) (by simp[hlt'])
      have hv:r[j]= .int k x:=by
       generalize r[j]=u at this
       cases this with | lf h=>cases h; rfl
      simp[hlt',hv]
   ·cases hdd
  ·split at hdd
   ·rename_i ls hl
    simp only[Option.some.injEq] at hdd
    subst hdd
    have ho:=z77 hl
    subst ho
    have hrs:r.size=ls.length:=by rw[g2]; simp
    have hll:(z5c sz n ls).length=n:=z5V n ls
    have hfl:ls.length=n*sz:=by
     have hout:∀(parts:List (Nat×(List Prop×Av))) (cells:List Cell) (ps:List Prop) (out:List Cell),z1A (fun i=>some (i*sz,sz)) cells parts=some (ps,out)→out.length=cells.length:=by
      intro parts
      induction parts with
      | nil=>intro cells ps out h; simp[z1A] at h; rw[h.2]
      | cons p parts ih=>
        obtain⟨i,p,x⟩:=p
        intro cells ps out h
        simp only[z1A] at h
        split at h
        ·rename_i cs e1 e2
         split at h
         ·rename_i e3 e4 e5
          split at h
          ·rename_i q r' e6
           simp only[Option.some.injEq,Prod.mk.injEq] at h
           obtain⟨_,rfl⟩:=h
           rw[ih _ _ _ e6]
           simp only[Option.some.injEq,Prod.mk.injEq] at e1
           have:i*sz+cs.length≤cells.length:=by have:=e5; simp at this; omega
           simp; omega
          ·cases h
         ·cases h
        ·cases h
     have:=hout _ _ _ _ hf
     simpa using this
    refine⟨by rw[hll]; simp[hrs,hfl],z7V n ls (by omega),fun i' r' k x h1 h2=>?_⟩
    have h3:=z7U n ls i' r' k x h1 h2
    have hlt:=(List.getElem?_eq_some_iff.1 h3).1
    have hlt':i'*sz+k<r.size:=by omega
    have:=g3 (i'*sz+k) (.lf x) r[i'*sz+k] (by rw[List.getElem?_map,h3]; rfl) (by simp[hlt'])
    cases this with | lf h=>exact⟨_,by simp[hlt'],h⟩
   ·cases hdd
 obtain⟨β2,hS2,h4⟩:=zdU (t:=e) hS' h1 h2 h3 hRC (cur:=r) (fun j v hv=>by simpa using hv)
 refine⟨_,_,by simp only[execOp,hop,Sem.run_bind,hrun,Result.andThen_ok]; rfl,β2,F,hS2.put (.c (.own _ _ _ _ _ _ (Nat.le_refl _) (by simp only[maxLen]; omega) (.inr ⟨_,h4,rfl,r,z3h _ _,?_⟩))) (z0x hd)⟩
 have:=hRC.length
 simp at this
 rw[this,n3,n4]; omega
theorem SR.own_nil {a:Act} {w:World} (h:SR E σ a w) (i j sz:Nat) (d:Leaf) (hi:σ.tm i=lv (.slice none 0 0)) (hj:Nat.ble 64 j=true) (hd:d= .ints .u8 []∨(∃ k,d= .ints k [])∨∃ s,d= .recs s []):
  SR E (((σ.kill j).seth j (.row d)).set i (.c (.own j sz 0 0))) a w:=by
 obtain⟨β,F,h⟩:=h
 have hj64:64≤j:=by simpa using hj
 have hk:=h.kill j (by have:=h.nbl; omega)
 have hv:=(h.tm i)
 rw[hi] at hv
 have hv:=hv.val
 refine⟨_,F,fun k=>?_,hk.sz,hk.df,fun k=>?_,fun k l g h1 h2 e1 e2=>?_,fun k g h1 e=>?_,hk.lt,hk.fr,hk.keep,hk.bb,hk.nbl⟩
 ·by_cases e:k=i
  ·subst e
   simp only[St.set,if_true]
   rw[hv]
   exact .c (.own _ _ _ _ _ _ (Nat.le_refl _) (by decide) (.inl rfl))
  ·simpa[St.set,e,St.seth] using hk.tm k
 ·by_cases e:k=j
  ·subst e
   simp only[St.set,St.seth,if_true]
   rcases hd with rfl |⟨k',rfl⟩ |⟨s,rfl⟩
   ·exact .inl ⟨rfl,fun g hg=>by simp at hg⟩
   ·exact .inl ⟨rfl,fun g hg=>by simp at hg⟩
   ·exact⟨fun r hr=>by simp at hr,.inl ⟨rfl,fun g hg=>by simp at hg⟩⟩
  ·simpa[St.set,St.seth,e] using hk.hp k
 ·by_cases ek:k=j
  ·subst ek; simp at e1
  ·by_cases el:l=j
   ·subst el; simp at e2
   ·exact hk.inj k l g (by simpa[St.set,St.seth,ek] using h1) (by simpa[St.set,St.seth,el] using h2) e1 e2
 ·by_cases ek:k=j
  ·subst ek; simp at e
  ·exact hk.own k g (by simpa[St.set,St.seth,ek] using h1) e
theorem z10 {c:Code} (i j sz:Nat) (d:Leaf) (hi:σ.tm i=lv (.slice none 0 0)) (hj:Nat.ble 64 j=true) (hd:d= .ints .u8 []∨(∃ k,d= .ints k [])∨∃ s,d= .recs s [])
 (h:W P E c Q (((σ.kill j).seth j (.row d)).set i (.c (.own j sz 0 0)))):W P E c Q σ:=fun a w hS=>h a w (hS.own_nil i j sz d hi hj hd)
theorem z7W {ex:Exit} (i j sz:Nat) (d:Leaf) (hi:σ.tm i=lv (.slice none 0 0)) (hj:Nat.ble 64 j=true) (hd:d= .ints .u8 []∨(∃ k,d= .ints k [])∨∃ s,d= .recs s [])
 (h:N E Q ex (((σ.kill j).seth j (.row d)).set i (.c (.own j sz 0 0)))):N E Q ex σ:=fun a w hS=>h a w (hS.own_nil i j sz d hi hj hd)
end
end Go.Sx
namespace Go.Sx
open Go
set_option linter.unusedVariables false
section
variable {R:Type}
def z6G:List Prop→(List Prop→R)→R
 | [],k=>k []
 | p::ps,k=>z6G ps (fun ps=>k (p::ps))
def zgV (x:Value) (k:Value→R):R:=
 match x with
 | .int kd n=>k (.int kd n)
 | .bool b=>k (.bool b)
 | .string s=>k (.string s)
 | x=>k x
def z8x (x:Leaf) (k:Leaf→R):R:=
 match x with
 | .v x=>zgV x fun x=>k (.v x)
 | .ints kd l=>k (.ints kd l)
 | .recs sz l=>k (.recs sz l)
 | .obj cs=>k (.obj cs)
def z9S (x:Cell) (k:Cell→R):R:=
 match x with
 | .lf x=>z8x x fun x=>k (.lf x)
 | .own j sz off len=>k (.own j sz off len)
 | .ptr j off=>k (.ptr j off)
 | x=>k x
def z8y (x:Av) (k:Av→R):R:=
 match x with
 | .c x=>z9S x fun x=>k (.c x)
 | .agg xs=>k (.agg xs)
 | .ai kd l=>k (.ai kd l)
 | x=>k x
def z2v (x:Av) (k:Av→R):R:=
 match x with
 | .cnd g x=>z8y x fun x=>k (.cnd g x)
 | x=>z8y x k
theorem z5n:∀(ps:List Prop) (k:List Prop→R),z6G ps k=k ps
 | [],k=>rfl
 | p::ps,k=>z5n ps _
theorem zgW (x:Value) (k:Value→R):zgV x k=k x:=by cases x<;>rfl
theorem z9T (x:Leaf) (k:Leaf→R):z8x x k=k x:=by cases x<;>first | rfl | simp only[z8x,zgW]
theorem zb7 (x:Cell) (k:Cell→R):z9S x k=k x:=by cases x<;>first | rfl | simp only[z9S,z9T]
theorem zfE (x:Av) (k:Av→R):z8y x k=k x:=by cases x<;>first | rfl | simp only[z8y,zb7]
theorem z2A (x:Av) (k:Av→R):z2v x k=k x:=by cases x<;>first | rfl | simp only[z2v,zfE]
end
def z0j {R:Type} (x:Option Nat) (k:Option Nat→R):R:=
 match x with
 | some d=>k (some d)
 | none=>k none
theorem z0t {R:Type} (x:Option Nat) (k:Option Nat→R):z0j x k=k x:=by cases x<;>rfl
def z4D (d:Option Nat):Option (List Prop×Av)→Option (Option Nat×List Prop×Av)
 | some (ps,x)=>z0j d fun d=>z6G ps fun ps=>z2v x fun x=>some (d,ps,x)
 | none=>none
theorem zar {d d':Option Nat} {r:Option (List Prop×Av)} {ps:List Prop} {x:Av} (h:z4D d r=some (d',ps,x)):r=some (ps,x)∧d'=d:=by
 cases r with
 | none=>cases h
 | some r=>
   obtain⟨qs,y⟩:=r
   simp only[z4D,z5n,z2A,z0t,Option.some.injEq,Prod.mk.injEq] at h
   obtain⟨rfl,rfl,rfl⟩:=h
   exact⟨rfl,rfl⟩
section
variable {P:Program} {E:Env} {ops:Array Oper} {Q:Exit→Act→World→Prop} {rest:List Oper} {o:Oper} {σ:St}
theorem sp (nw:Bool) {d:Option Nat} {ps:List Prop} {x:Av} (hg:o.guard=none) (h:z4D o.dst (z1M nw P σ o)=some (d,ps,x)) (hd:z0e E.n d=true) (hp:z03 ps) (hk:WL P E ops Q rest (σ.put d x)):
  WL P E ops Q (o::rest) σ:=by
 obtain⟨h1,h2⟩:=zar h
 subst h2
 exact zoU nw h1 hg hd hp hk
def z0V (ops:Array Oper) (σ:St) (i:Nat) (b:Bool):Option Bool:=
 match (ops[i]?).bind (·.dst) with
 | some d=>
   match σ.tm d with
   | .c (.lf (.v (.bool y)))=>match b with | true=>some y | false=>some (!y)
   | .cnd g (.c (.lf (.v (.bool y))))=>match b with | true=>some (g&&y) | false=>some (g&&!y)
   | _=>none
 | none=>none
theorem z6g {i:Nat} {b G:Bool} (h:z0V ops σ i b=some G):z7G ops σ i b=some G:=by
 have:z0V ops σ i b=z7G ops σ i b:=by
  cases b<;>rfl
 rw[←this]; exact h
theorem sg (nw:Bool) {i:Nat} {b G:Bool} {d:Option Nat} {ps:List Prop} {x:Av} (hg:o.guard=some (i,b)) (hG:z0V ops σ i b=some G) (h:z4D o.dst (z1M nw P σ o)=some (d,ps,x)) (hd:z0e E.n d=true)
  (hp:G=true→z03 ps) (hk:WL P E ops Q rest (σ.put d (.cnd G x))):WL P E ops Q (o::rest) σ:=by
 obtain⟨h1,h2⟩:=zar h
 subst h2
 exact zku nw hg (z6g hG) h1 hd hp hk
end
@[simp] theorem zxC:z03 []↔True:=Iff.rfl
@[simp] theorem zxD (p:Prop):z03 [p]↔p:=Iff.rfl
@[simp] theorem zw0 (p q:Prop) (ps:List Prop):z03 (p::q::ps)↔p∧z03 (q::ps):=Iff.rfl
@[simp] theorem zxE (n:Int):IntKind.i64.wrap n=n↔ -9223372036854775808≤n∧n<9223372036854775808:=by
 simp only[IntKind.wrap,IntKind.signed,IntKind.bits]; constructor<;>intro h<;>simp at* <;>omega
@[simp] theorem zec (n:Int):IntKind.u8.wrap n=n↔0≤n∧n<256:=by
 simp only[IntKind.wrap,IntKind.signed,IntKind.bits]; constructor<;>intro h<;>simp at* <;>omega
@[simp] theorem zxF (n:Int):IntKind.u32.wrap n=n↔0≤n∧n<4294967296:=by
 simp only[IntKind.wrap,IntKind.signed,IntKind.bits]; constructor<;>intro h<;>simp at* <;>omega
@[simp] theorem zxG (n:Int):IntKind.u64.wrap n=n↔0≤n∧n<18446744073709551616:=by
 simp only[IntKind.wrap,IntKind.signed,IntKind.bits]; constructor<;>intro h<;>simp at* <;>omega
@[simp] theorem zxH (n:Int):IntKind.i32.wrap n=n↔ -2147483648≤n∧n<2147483648:=by
 simp only[IntKind.wrap,IntKind.signed,IntKind.bits]; constructor<;>intro h<;>simp at* <;>omega
end Go.Sx
namespace Go.Sx
open Go
set_option linter.unusedVariables false
structure Grow (w w':World):Prop where
 os:w'.os=w.os
 tape:w'.tape=w.tape
 output:w'.output=w.output
 size:w.heap.size≤w'.heap.size
 block:∀ k,k<w.heap.size→w'.heap[k]? =w.heap[k]?
theorem Grow.refl (w:World):Grow w w:=⟨rfl,rfl,rfl,Nat.le_refl _,fun _ _=>rfl⟩
theorem SRb.grown {E:Env} {β:Nat→Option Nat} {F F':Nat→Prop} {σ:St} {a:Act} {w w':World} (h:SRb E β F σ a w) (hg:Grow w w') (h1:∀ b,F b→F' b) (h2:∀ b,F' b→F b∨(w.heap.size≤b∧b<w'.heap.size)):
  SRb E β F' σ a w':=by
 have hF:∀ b,F b→F' b∧w'.heap[b]? =w.heap[b]?:=fun b hb=>⟨h1 b hb,hg.block b (h.fr b hb).1⟩
 have hC:∀ g n,z0X w g n→z0X w' g n:=fun g n hc=>hc.same (hg.block g hc.lt)
 have hFb:∀ b,F b→w'.heap[b]? =w.heap[b]?:=fun b hb=>(hF b hb).2
 refine⟨fun i=>(h.tm i).mono (fun _ _ h=>h) hF hC,h.sz,h.df,fun j=>?_,h.inj,fun j g hj e=>?_,fun j g e=>Nat.lt_of_lt_of_le (h.lt j g e) hg.size,fun b hb=>?_,?_,h.bb,h.nbl⟩
 ·have h0:z0p β F w' j (σ.hp j):=(h.hp j).mono (fun _ _ h=>h) rfl hFb hC (fun g e=>hg.block g (h.lt j g e))
  revert h0
  cases σ.hp j with
  | gone=>exact fun _=>trivial
  | map es=>
    rintro⟨g,ms,ck,e1,e2,e3,e4⟩
    exact⟨g,ms,ck,e1,e2,e3,fun i k x hx=>let ⟨e,q1,q2,q3⟩:=e4 i k x hx; ⟨e,q1,q2,q3.mono fun b hb=>⟨h1 b hb,rfl⟩⟩⟩
  | raw g ob=>
    exact fun h=>h
  | mapS g ms ck es=>
    rintro⟨e1,e2,e3,e4⟩
    exact⟨e1,e2,e3,fun i k x hx=>let ⟨e,q1,q2,q3⟩:=e4 i k x hx; ⟨e,q1,q2,q3.mono fun b hb=>⟨h1 b hb,rfl⟩⟩⟩
  | cells cs=>
    rintro⟨g,cur,e1,e2,e3,e4⟩
    exact⟨g,cur,e1,e2,e3,fun i x v hx hv=>(e4 i x v hx hv).mono (fun _ _ h=>h) (fun b hb=>⟨h1 b hb,rfl⟩) (fun _ _ h=>h)⟩
  | fr vs cs=>
    rintro⟨g,cur,e1,e2,e3,e4⟩
    exact⟨g,cur,e1,e2,e3,fun i x v hx hv=>(e4 i x v hx hv).mono (fun _ _ h=>h) (fun b hb=>⟨h1 b hb,rfl⟩) (fun _ _ h=>h)⟩
  | row d=>
    cases d with
    | ints k l=>exact fun h=>h
    | recs sz l=>
      rintro⟨e1,e2⟩
      refine⟨e1,?_⟩
      rcases e2 with e2 |⟨g,cur,e2,e3,e4⟩
      ·exact .inl e2
      ·refine .inr ⟨g,cur,e2,e3,fun i r k x hi hk=>?_⟩
       obtain⟨u,hu,hl⟩:=e4 i r k x hi hk
       exact⟨u,hu,hl.mono fun b hb=>⟨h1 b hb,rfl⟩⟩
    | v=>exact fun h=>h
    | obj=>exact fun h=>h
 ·obtain⟨a1,a2,a3⟩:=h.own j g hj e
  refine⟨Nat.lt_of_lt_of_le a1 hg.size,a2,fun hf=>?_⟩
  rcases h2 g hf with h | h
  ·exact a3 h
  ·omega
 ·rcases h2 b hb with h' | h'
  ·obtain⟨a1,a2⟩:=h.fr b h'
   exact⟨Nat.lt_of_lt_of_le a1 hg.size,a2⟩
  ·exact⟨h'.2,.inr (Nat.le_trans h.keep.size h'.1)⟩
 ·exact h.keep.trans (M':=fun _=>False) ⟨hg.os,hg.tape,hg.output,hg.size,fun k hk _=>hg.block k hk,hC⟩ (fun _ h=>h) (fun _ _ h=>h.elim)
def OpQ (P:Program) (E:Env) (ops:Array Oper) (o:Oper) (σ:St) (x:Av):Prop:=
 ∀ β F a w,SRb E β F σ a w→∀(K:Act→World→Prop) (Q:Exit→Act→World→Prop),
   (∀ v w' F',Grow w w'→(∀ b,F b→F' b)→(∀ b,F' b→F b∨(w.heap.size≤b∧b<w'.heap.size))→AvR β F' w' x v→K (a.put o.dst v) w')→
   if Region.wanted o (yielded ops a.tmps) then o.wp P a w K Q else K (a.put o.dst undef) w
section
variable {P:Program} {E:Env} {ops:Array Oper} {Q:Exit→Act→World→Prop} {o:Oper} {σ:St}
theorem Cell.ren1_id (x:Cell):x.ren1 id=x:=by cases x<;>rfl
theorem zdM (l:List Cell):l.map (Cell.ren1 id)=l:=by
 induction l with
 | nil=>rfl
 | cons x l ih=>rw[List.map_cons,ih,Cell.ren1_id]
theorem Cell.ren_id (x:Cell):x.ren id=x:=by
 cases x with
 | fn f first cap=>simp only[Cell.ren,zdM]
 | _=>rfl
theorem zfF (l:List Cell):l.map (Cell.ren id)=l:=by
 induction l with
 | nil=>rfl
 | cons x l ih=>rw[List.map_cons,ih,Cell.ren_id]
theorem Av.ren1_id (x:Av):x.ren1 id=x:=by
 cases x with
 | c x=>simp only[Av.ren1,Cell.ren_id]
 | agg xs=>simp only[Av.ren1,zfF]
 | _=>rfl
theorem zbK (l:List Av):l.map (Av.ren1 id)=l:=by
 induction l with
 | nil=>rfl
 | cons x l ih=>rw[List.map_cons,ih,Av.ren1_id]
theorem Av.ren_id (x:Av):x.ren id=x:=by
 cases x with
 | tup xs=>simp only[Av.ren,zbK]
 | c x=>exact Av.ren1_id (.c x)
 | agg x=>exact Av.ren1_id (.agg x)
 | ai k l=>rfl
 | cnd g x=>rfl
theorem z7X {c:Call} {fo:Operand} {f:FuncId} {first cap:List Cell} {pf:List Prop} {xs:List Av} {res:Av} (hF:Ct P f xs [] res [] [])
  (hop:o.op= .call c) (hcv:c.callee= .value fo) (hfo:ox σ fo=(pf,.c (.fn (.func f) first cap)))
  (hp:z03 (pf++(oxs σ c.args.toList).1)) (hxs:first.map Av.c++(oxs σ c.args.toList).2++cap.map Av.c=xs) (hok:(xs.all (Av.ok 0)&&res.ok 0)=true):
  ∀ β F a w,SRb E β F σ a w→∀(K:Act→World→Prop) (Q:Exit→Act→World→Prop),
  (∀ v w' F',Grow w w'→(∀ b,F b→F' b)→(∀ b,F' b→F b∨(w.heap.size≤b∧b<w'.heap.size))→AvR β F' w' res v→K (a.put o.dst v) w')→o.wp P a w K Q:=by
 intro β F a w hS K Q hK
 simp only[Bool.and_eq_true,List.all_eq_true] at hok
 have hfv:=oxR hS fo
 rw[hfo] at hfv
 have hfv:=hfv hp.left
 generalize hv:a.eval fo=fv at hfv
 cases hfv with | c hfv=>cases hfv with | fn _ _ _ f1 c1 n1 n2 r1 r2=>
 obtain⟨l1,l2⟩:=z59 hS c.args.toList hp.right
 have hrun:(execOp a.eval o).run P w= .ok (.enter f (f1++c.args.map a.eval++c1)) w:=by
  simp only[execOp,hop,resolve,hcv,hv,Deferred.ofValue,Sem.run_bind,Sem.run_pure,Result.andThen_ok,invoke]
  exact z22 hF.2.1
 unfold Oper.wp
 rw[hrun,Oper.upon_enter]
 have hargs:∀(i:Nat) (x:Av) (v:Value),xs[i]? =some x→(f1++c.args.map a.eval++c1).toList[i]? =some v→AvR (fun _=>none) F w x v:=by
  intro i y v hy hv
  have hy0:=hy
  rw[←hxs] at hy
  have key:AvR β F w y v:=by
   simp only[Array.toList_append,List.append_assoc] at hv
   rw[List.append_assoc] at hy
   rcases Nat.lt_or_ge i first.length with h | h
   ·rw[List.getElem?_append_left (by simpa using h)] at hy
    rw[List.getElem?_append_left (by simp[n1]; exact h)] at hv
    rw[List.getElem?_map,Option.map_eq_some_iff] at hy
    obtain⟨x,hx,rfl⟩:=hy
    exact .c (r1 i x v hx (by simpa using hv))
   ·rw[List.getElem?_append_right (by simpa using h)] at hy
    rw[List.getElem?_append_right (by simp[n1]; exact h)] at hv
    simp only[List.length_map,Array.length_toList,n1] at hy hv
    rcases Nat.lt_or_ge (i -first.length) c.args.toList.length with h' | h'
    ·rw[List.getElem?_append_left (by rw[l1]; exact h')] at hy
     rw[List.getElem?_append_left (by simpa using h')] at hv
     exact l2 _ y v hy (by simpa using hv)
    ·rw[List.getElem?_append_right (by rw[l1]; exact h')] at hy
     rw[List.getElem?_append_right (by simpa using h')] at hv
     rw[List.getElem?_map,Option.map_eq_some_iff] at hy
     obtain⟨x,hx,rfl⟩:=hy
     refine .c (r2 _ x v hx ?_)
     simp only[l1] at hx
     simpa[l1] using hv
  have:=AvR.ren (β:=fun _=>none) (ρ:=id) (n:=0) (fun i h=>absurd h (Nat.not_lt_zero _)) key (hok.1 y (List.mem_of_getElem? hy0))
  rwa[Av.ren_id] at this
 have hlen:(f1++c.args.map a.eval++c1).toList.length=xs.length:=by
  rw[←hxs]
  simp[n1,n2,l1]
 have hcall:=hF.2.2 w (fun _=>none) F (f1++c.args.map a.eval++c1).toList hlen hargs (fun i b h=>by simp at h) (fun i j g h=>absurd h (Nat.not_lt_zero _)) (fun j g h=>absurd h (Nat.not_lt_zero _)) (fun _ _=>rfl) (fun b hb=>(hS.fr b hb).1) hS.gd0
 rw[Array.toArray_toList] at hcall
 refine hcall.mono fun e w' hq=>?_
 obtain⟨v,β',F',rfl,hres,_,_,hout⟩:=hq
 have hg:Grow w w':=⟨hout.keep.os,hout.keep.tape,hout.keep.output,hout.keep.size,fun k hk=>hout.keep.block k hk (by rintro⟨i,hi,_⟩; exact absurd hi (Nat.not_lt_zero _))⟩
 refine hK v w' (fun b=>F b∨F' b) hg (fun b h=> .inl h) (fun b hb=>?_) ?_
 ·rcases hb with hb | hb
  ·exact .inl hb
  ·obtain⟨a1,a2⟩:=hout.fr b hb
   rcases a2 with a2 | a2
   ·exact .inl a2
   ·exact .inr ⟨a2,a1⟩
 ·have:=AvR.ren (β:=β) (ρ:=id) (n:=0) (fun i h=>absurd h (Nat.not_lt_zero _)) hres hok.2
  rw[Av.ren_id] at this
  exact this.mono (fun _ _ h=>h) (fun b hb=>⟨.inr hb,rfl⟩) (fun _ _ h=>h)
theorem ziT {c:Call} {fo:Operand} {f:FuncId} {first cap:List Cell} {pf:List Prop} {xs:List Av} {res:Av} (hF:Ct P f xs [] res [] [])
  (hop:o.op= .call c) (hg:o.guard=none) (hcv:c.callee= .value fo) (hfo:ox σ fo=(pf,.c (.fn (.func f) first cap)))
  (hp:z03 (pf++(oxs σ c.args.toList).1)) (hxs:first.map Av.c++(oxs σ c.args.toList).2++cap.map Av.c=xs) (hok:(xs.all (Av.ok 0)&&res.ok 0)=true):OpQ P E ops o σ res:=by
 intro β F a w hS K Q hK
 rw[show Region.wanted o (yielded ops a.tmps)=true by simp[Region.wanted,hg],if_pos rfl]
 exact z7X hF hop hcv hfo hp hxs hok β F a w hS K Q hK
theorem zgX {i:Nat} {b G:Bool} {c:Call} {fo:Operand} {f:FuncId} {first cap:List Cell} {pf:List Prop} {xs:List Av} {res:Av} (hg:o.guard=some (i,b)) (hG:z0V ops σ i b=some G)
  (hop:o.op= .call c) (hcv:c.callee= .value fo) (hfo:ox σ fo=(pf,.c (.fn (.func f) first cap)))
  (hF:G=true→Ct P f xs [] res [] [])
  (hp:G=true→z03 (pf++(oxs σ c.args.toList).1)) (hxs:first.map Av.c++(oxs σ c.args.toList).2++cap.map Av.c=xs) (hok:(xs.all (Av.ok 0)&&res.ok 0)=true):OpQ P E ops o σ (.cnd G res):=by
 intro β F a w hS K Q hK
 have hw:=z4a (o:=o) (z6g hG) hg hS
 rw[hw]
 cases G with
 | true=>
   rw[if_pos rfl]
   exact z7X (hF rfl) hop hcv hfo (hp rfl) hxs hok β F a w hS K Q fun v w' F' g1 g2 g3 g4=>hK v w' F' g1 g2 g3 (.cnd _ _ _ (fun _=>g4) (fun h=>by cases h))
 | false=>
   rw[if_neg (by simp)]
   exact hK _ w F (.refl w) (fun _ h=>h) (fun _ h=> .inl h) (.cnd _ _ _ (fun h=>by cases h) (fun _=>rfl))
theorem z1b {rest:List Oper} {x:Av} (h:OpQ P E ops o σ x) (hd:z0e E.n o.dst=true) (hk:WL P E ops Q rest (σ.put o.dst x)):WL P E ops Q (o::rest) σ:=by
 intro a w hS
 obtain⟨β,F,hS⟩:=hS
 have:=h β F a w hS (wpList P ops Q rest) Q fun v w' F' g1 g2 g3 g4=>hk _ _ ⟨β,F',(hS.grown g1 g2 g3).put g4 (z0x hd)⟩
 unfold wpList
 split
 ·rename_i hw; rw[if_pos hw] at this; exact .inl this
 ·rename_i hw; rw[if_neg hw] at this; exact this
end
end Go.Sx
namespace Go.Sx
open Go
set_option linter.unusedVariables false
set_option linter.unusedSimpArgs false
def fnd:List Oper→Nat→Nat→Option Nat
 | [],_,_=>none
 | o::l,s,k=>match o.dst with
   | some d=>match Nat.beq d s with | true=>some k | false=>fnd l s (k+1)
   | none=>fnd l s (k+1)
def z0c (i:Nat):List Nat→Bool
 | []=>false
 | j::l=>match Nat.beq i j with | true=>true | false=>z0c i l
def stD (σ:St) (l:List Oper) (T:Nat→Av) (done:Nat→Bool):St:=
 ⟨fun s=>match fnd l s 0 with | some i=>(match done i with | true=>T i | false=> .c .un) | none=>σ.tm s,σ.hp⟩
def z46 (o:Oper):List Nat:=(o.after.toList.filter (Region.binds .any)).map (·.on)
def cnt (f:Nat→Bool):Nat→Nat
 | 0=>0
 | n+1=>cnt f n+(match f n with | true=>1 | false=>0)
theorem zas {f f':Nat→Bool} {i:Nat} (h1:f i=true) (h2:f' i=false) (h:∀ j,j≠i→f' j=f j):∀ n,cnt f n=cnt f' n+(if i<n then 1 else 0)
 | 0=>rfl
 | n+1=>by
   have ih:=zas h1 h2 h n
   simp only[cnt]
   by_cases hn:n=i
   ·subst hn
    rw[h1,h2,ih]
    simp
   ·rw[h n hn,ih]
    by_cases h3:i<n
    ·simp[h3,show i<n+1 by omega]; omega
    ·simp[h3,show ¬ i<n+1 by omega]
theorem z78 {f:Nat→Bool}:∀ n,cnt f n=0→∀ j,j<n→f j=false
 | n+1,h,j,hj=>by
   simp only[cnt] at h
   by_cases hjn:j=n
   ·subst hjn
    cases hf:f j with
    | false=>rfl
    | true=>rw[hf] at h; simp at h
   ·exact z78 n (by omega) j (by omega)
theorem z7Y {f:Nat→Bool}:∀ n,cnt f n≠0→∃ j,j<n∧f j=true∧∀ k,k<j→f k=false
 | 0,h=>absurd rfl h
 | n+1,h=>by
   by_cases h0:cnt f n=0
   ·refine⟨n,by omega,?_,z78 n h0⟩
    simp only[cnt,h0] at h
    cases hf:f n with
    | true=>rfl
    | false=>rw[hf] at h; simp at h
   ·obtain⟨j,a,b,c⟩:=z7Y n h0
    exact⟨j,by omega,b,c⟩
def z9U (ops:Array Oper) (l:List Oper) (n:Nat):Bool:=
 Nat.ble n ops.size&&(Nat.beq n ops.size||(Region.sinkB .any ops n&&Region.chainB .any ops n))&&
 Region.seqB .any ops (ops.size -n) n ((List.replicate n true++List.replicate (ops.size -n) false).toArray)&&
 (List.range n).all (fun i=>match ops[i]? with
   | some o=>o.after.toList.all (fun e=>Nat.blt e.on i)&&(match o.dst with | some d=>(match fnd l d 0 with | some j=>Nat.beq j i | none=>false) | none=>true)
   | none=>false)
theorem SRb.weaken {E:Env} {β:Nat→Option Nat} {F:Nat→Prop} {σ τ:St} {a:Act} {w:World} (h:SRb E β F σ a w) (h1:∀ i,τ.tm i=σ.tm i∨τ.tm i= .c .un) (h2:τ.hp=σ.hp):SRb E β F τ a w:=by
 refine⟨fun i=>?_,h.sz,h.df,by rw[h2]; exact h.hp,by rw[h2]; exact h.inj,by rw[h2]; exact h.own,h.lt,h.fr,h.keep,h.bb,h.nbl⟩
 rcases h1 i with e | e
 ·rw[e]; exact h.tm i
 ·rw[e]; exact .any _
theorem SRb.drawn {E:Env} {β:Nat→Option Nat} {F:Nat→Prop} {σ:St} {a:Act} {w:World} (h:SRb E β F σ a w) (n:Nat):SRb E β F σ a {w with drawn:=n}:=
 h.grown (w':= {w with drawn:=n}) ⟨rfl,rfl,rfl,Nat.le_refl _,fun _ _=>rfl⟩ (fun _ h=>h) (fun _ h=> .inl h)
section
variable {P:Program} {E:Env} {ops:Array Oper} {Q:Exit→Act→World→Prop} {σ:St}
theorem ziU {l lt:List Oper} {n:Nat} {T:Nat→Av} (hT:lt.length=ops.size -n) (hTl:∀ j,lt[j]? =ops[n+j]?) (hB:z9U ops l n=true) (hl:∀ s i,fnd l s 0=some i→i<n∧(ops[i]?).bind (·.dst)=some s) (hE:∀ d o i,i<n→ops[i]? =some o→o.dst=some d→d<E.n)
  (hop:∀ i o,i<n→ops[i]? =some o→OpQ P E ops o (stD σ l T (fun j=>z0c j (z46 o))) (T i))
  (hk:∀ a w,SR E (stD σ l T (fun _=>true)) a w→wpList P ops Q lt a w):
  ∀(m:Nat) (listed:Array Bool) (a:Act) (w:World),cnt (fun j=>!listed.getD j true) n=m→HeadInv .any ops n listed→(∃ β F,SRb E β F (stD σ l T (fun j=>listed.getD j false)) a w)→
   wpAny P .any ops Q (m+(ops.size -n)) listed a w:=by
 simp only[z9U,Bool.and_eq_true,Bool.or_eq_true,List.all_eq_true,List.mem_range] at hB
 obtain⟨⟨⟨hB1,hB2⟩,hB3⟩,hB4⟩:=hB
 have hn:n≤ops.size:=Nat.le_of_ble_eq_true hB1
 intro m
 induction m with
 | zero=>
   intro listed a w hc hI hS
   have hall:=z78 n hc
   have e:listed=(List.replicate n true++List.replicate (ops.size -n) false).toArray:=by
    apply Array.ext_getElem?
    intro i
    simp only[List.getElem?_toArray]
    rcases Nat.lt_or_ge i n with h | h
    ·rw[List.getElem?_append_left (by simpa using h)]
     have h1:=hall i h
     have hs:i<listed.size:=by rw[hI.size]; omega
     simp[hs] at h1
     simp[hs,h,h1]
    ·rw[List.getElem?_append_right (by simpa using h)]
     rcases Nat.lt_or_ge i ops.size with h' | h'
     ·have h1:=hI.tail i h h'
      have hs:i<listed.size:=by rw[hI.size]; exact h'
      simp[hs] at h1
      simp[hs,h1,show i -n<ops.size -n by omega]
     ·have hs:¬ i<listed.size:=by rw[hI.size]; omega
      simp[hs,show ¬ i -n<ops.size -n by omega]
   rw[Nat.zero_add]
   have hst:stD σ l T (fun j=>listed.getD j false)=stD σ l T (fun _=>true):=by
    simp only[stD,St.mk.injEq,and_true]
    funext s
    split
    ·rename_i i hi
     have:=(hl s i hi).1
     have h1:=hall i this
     have hs:i<listed.size:=by rw[hI.size]; omega
     simp[hs] at h1
     simp[hs,h1]
    ·rfl
   rw[hst] at hS
   have:=wpAny_of_seq (md:= .any) (P:=P) (Q':=Q) lt n listed a w hTl (by rw[hT,e]; exact hB3) (hk a w hS)
   rwa[hT] at this
 | succ m ih=>
   intro listed a w hc hI hS
   have hne:cnt (fun j=>!listed.getD j true) n≠0:=by omega
   obtain⟨i0,h1,h2,h3⟩:=z7Y n hne
   have h2':listed.getD i0 true=false:=by simpa using h2
   have hr0:i0 ∈ Region.ready .any ops listed:=by
    refine mem_ready.2 ⟨h2',?_⟩
    have:=hB4 i0 h1
    split at this
    ·rename_i o ho
     simp only[Bool.and_eq_true,List.all_eq_true] at this
     refine⟨o,ho,fun e he _=>?_⟩
     have h4:e.on<i0:=z1H (this.1 e (by simpa using he))
     have h5:=h3 e.on h4
     have hs:e.on<listed.size:=by rw[hI.size]; omega
     simp[hs] at h5
     simp[hs,h5]
    ·cases this
   rw[show m+1+(ops.size -n)=m+(ops.size -n)+1 by omega]
   refine⟨fun h=>(by rw[h] at hr0; cases hr0),fun i hi=>?_⟩
   have hin:i<n:=by
    rcases Nat.lt_or_ge i n with h | h
    ·exact h
    ·rcases hB2 with hB2 | hB2
     ·have e:n=ops.size:=Nat.eq_of_beq_eq_true hB2
      obtain⟨_,o,ho,_⟩:=mem_ready.1 hi
      have:=(Array.getElem?_eq_some_iff.1 ho).1
      omega
     ·by_cases hns:n<ops.size
      ·exact absurd hi (tail_waits hB2.1 hB2.2 hns hI _ i0 rfl h1 h2' i h)
      ·obtain⟨_,o,ho,_⟩:=mem_ready.1 hi
       have:=(Array.getElem?_eq_some_iff.1 ho).1
       omega
   obtain⟨hun,o,ho,hdeps⟩:=mem_ready.1 hi
   have hB4i:=hB4 i hin
   rw[ho] at hB4i
   simp only[Bool.and_eq_true] at hB4i
   obtain⟨β,F,hS⟩:=hS
   have hmin:SRb E β F (stD σ l T (fun j=>z0c j (z46 o))) a w:=by
    refine hS.weaken (fun s=>?_) rfl
    simp only[stD]
    split
    ·rename_i j hj
     cases hm:z0c j (z46 o) with
     | false=>exact .inr rfl
     | true=>
       left
       have hmem:∀(x:Nat) (l:List Nat),z0c x l=true→x ∈ l:=by
        intro x l
        induction l with
        | nil=>intro h; cases h
        | cons y l ih=>
          intro h
          simp only[z0c] at h
          split at h
          ·rename_i e; rw[Nat.eq_of_beq_eq_true e]; exact List.mem_cons_self ..
          ·exact List.mem_cons_of_mem _ (ih h)
       have:=hmem _ _ hm
       simp only[z46,List.mem_map,List.mem_filter] at this
       obtain⟨e,⟨he1,he2⟩,rfl⟩:=this
       rw[hdeps e (by simpa using he1) he2]
    ·exact .inl rfl
   have hq:=hop i o hin ho β F a w hmin (fun a' w'=>wpAny P .any ops Q (m+(ops.size -n)) (listed.setIfInBounds i true) a' w') Q fun v w' F' g1 g2 g3 g4=>by
    refine ih _ _ _ ?_ (hI.set hi hin) ?_
    ·have hs:i<listed.size:=by rw[hI.size]; omega
     have:=zas (f:=fun j=>!listed.getD j true) (f':=fun j=>!(listed.setIfInBounds i true).getD j true) (i:=i) (by simp[hun]) (by simp[hs]) (fun j hj=>by
      simp only[getD_set_ne true (Ne.symm hj)]) n
     rw[if_pos hin] at this
     omega
    ·refine⟨β,F',?_⟩
     have hb:=(hS.grown g1 g2 g3)
     have hs:i<listed.size:=by rw[hI.size]; omega
     cases hd:o.dst with
     | none=>
       have e:stD σ l T (fun j=>(listed.setIfInBounds i true).getD j false)=stD σ l T (fun j=>listed.getD j false):=by
        simp only[stD,St.mk.injEq,and_true]
        funext s
        split
        ·rename_i j hj
         have hjs:=(hl s j hj).2
         have hji:j≠i:=by rintro rfl; rw[ho] at hjs; simp[hd] at hjs
         rw[getD_set_ne false (Ne.symm hji)]
        ·rfl
       rw[e]
       exact hb
     | some d=>
       rw[hd] at hB4i
       have hfd:fnd l d 0=some i:=by
        have:=hB4i.2
        dsimp only at this
        split at this
        ·rename_i j hj; rw[hj,Nat.eq_of_beq_eq_true this]
        ·cases this
       have hp:=hb.put (d:=some d) g4 (fun k hk=>by cases hk; exact hE d o i hin ho hd)
       refine hp.weaken (fun s=> .inl ?_) rfl
       simp only[stD,St.put,St.set]
       by_cases hsd:s=d
       ·subst hsd
        simp[hfd,hs]
       ·rw[if_neg hsd]
        split
        ·rename_i j hj
         have hji:j≠i:=by
          rintro rfl
          have h5:=(hl s j hj).2
          rw[ho] at h5
          simp[hd] at h5
          exact hsd h5.symm
         rw[getD_set_ne false (Ne.symm hji)]
        ·rfl
   unfold wpOp
   rw[ho]
   dsimp only
   split
   ·rename_i hw; rw[if_pos hw] at hq; exact .inl hq
   ·rename_i hw; rw[if_neg hw] at hq; exact hq
theorem z5W:∀(l:List Oper) (s k i:Nat),fnd l s k=some i→k≤i∧(l[i -k]?).bind (·.dst)=some s
 | o::l,s,k,i,h=>by
   have next:fnd l s (k+1)=some i→k≤i∧((o::l)[i -k]?).bind (·.dst)=some s:=fun h=>by
    obtain⟨h1,h2⟩:=z5W l s (k+1) i h
    refine⟨by omega,?_⟩
    rw[show i -k=i -(k+1)+1 by omega]
    exact h2
   simp only[fnd] at h
   split at h
   ·rename_i d hd
    split at h
    ·rename_i e
     simp only[Option.some.injEq] at h
     subst h
     have:d=s:=Nat.eq_of_beq_eq_true e
     subst this
     exact⟨Nat.le_refl _,by simp[hd]⟩
    ·exact next h
   ·exact next h
def zrE (P:Program) (E:Env) (ops:Array Oper) (l:List Oper) (σ:St) (k:Nat) (done:List Av) (rest:List Oper) (K:List Av→Prop):Prop:=
 ∃ xs:List Av,xs.length=rest.length∧(∀ i o,rest[i]? =some o→OpQ P E ops o (stD σ l (fun j=>(done++xs).getD j (.c .un)) (fun j=>z0c j (z46 o))) ((done++xs).getD (k+i) (.c .un)))∧K (done++xs)
theorem zpE {id:Nat} {l:List Oper} (n:Nat) (hm:P.follows .mixedOrders=true) (hB:z9U l.toArray (l.take n) n=true) (hE:(l.take n).all (fun o=>z0e E.n o.dst)=true)
  (h:zrE P E l.toArray (l.take n) σ 0 [] (l.take n) (fun xs=>WL P E l.toArray Q (l.drop n) (stD σ (l.take n) (fun j=>xs.getD j (.c .un)) (fun _=>true)))):W P E (.region id l.toArray true) Q σ:=by
 intro a w hS
 obtain⟨xs,h1,h2,h3⟩:=h
 have hn:n≤l.length:=by
  simp only[z9U,Bool.and_eq_true] at hB
  have:=Nat.le_of_ble_eq_true hB.1.1.1
  simpa using this
 refine wp_region_any hm ?_
 have hl:(l.take n).length=n:=by simp; omega
 have hcnt:cnt (fun j=>!(Array.replicate l.toArray.size false).getD j true) n=n:=by
  have:∀ m,m≤l.length→cnt (fun j=>!(Array.replicate l.toArray.size false).getD j true) m=m:=by
   intro m
   induction m with
   | zero=>intro _; rfl
   | succ m ih=>
     intro hm
     simp only[cnt,ih (by omega)]
     simp[show m<l.length by omega]
  exact this n hn
 have key:=ziU (P:=P) (E:=E) (ops:=l.toArray) (Q:=Q) (σ:=σ) (l:=l.take n) (lt:=l.drop n) (n:=n) (T:=fun j=>([]++xs).getD j (.c .un)) (by simp) (fun j=>by simp[List.getElem?_drop]) hB
  (fun s i hi=>by
    obtain⟨_,h5⟩:=z5W _ _ _ _ hi
    rw[Nat.sub_zero] at h5
    obtain⟨o,ho,hod⟩:=Option.bind_eq_some_iff.1 h5
    rw[List.getElem?_take] at ho
    split at ho
    ·rename_i hlt
     exact⟨hlt,by simp[ho,hod]⟩
    ·cases ho)
  (fun d o i hi ho hd=>by
    have:o ∈ l.take n:=List.mem_of_getElem? (i:=i) (by rw[List.getElem?_take,if_pos hi]; simpa using ho)
    exact z0x (List.all_eq_true.1 hE o this) d hd)
  (fun i o hi ho=>by
    have:=h2 i o (by rw[List.getElem?_take,if_pos hi]; simpa using ho)
    simpa using this)
  (fun a w h=>h3 a w h) n (Array.replicate l.toArray.size false) a {w with drawn:=w.drawn+1} hcnt
  ⟨by simp,fun j oj _ hl=>(by rw[getD_replicate_false] at hl; cases hl),fun t _ ht=>getD_in (by simpa using ht) (getD_replicate_false _ _)⟩
  (by
    obtain⟨β,F,hS⟩:=hS
    refine⟨β,F,(hS.drawn _).weaken (fun s=>?_) rfl⟩
    simp only[stD]
    split
    ·rename_i i hi
     rw[getD_replicate_false]
     exact .inr rfl
    ·exact .inl rfl)
 rwa[show n+(l.toArray.size -n)=l.toArray.size by simp; omega] at key
end
end Go.Sx
namespace Go.Sx
open Go
set_option linter.unusedVariables false
def OpY (P:Program) (E:Env) (o:Oper) (σ:St) (x:Av):Prop:=
 ∀ β F a w,SRb E β F σ a w→∀(K:Act→World→Prop) (Q:Exit→Act→World→Prop),
   (∀ v w' F',Grow w w'→(∀ b,F b→F' b)→(∀ b,F' b→F b∨(w.heap.size≤b∧b<w'.heap.size))→AvR β F' w' x v→K (a.put o.dst v) w')→o.wp P a w K Q
section
variable {P:Program} {E:Env} {ops:Array Oper} {Q:Exit→Act→World→Prop} {o:Oper} {σ:St} {x:Av}
theorem z0L (h:OpY P E o σ x) (hg:o.guard=none):OpQ P E ops o σ x:=by
 intro β F a w hS K Q hK
 rw[show Region.wanted o (yielded ops a.tmps)=true by simp[Region.wanted,hg],if_pos rfl]
 exact h β F a w hS K Q hK
theorem z3X {i:Nat} {b G:Bool} (hg:o.guard=some (i,b)) (hG:z0V ops σ i b=some G) (h:G=true→OpY P E o σ x):OpQ P E ops o σ (.cnd G x):=by
 intro β F a w hS K Q hK
 rw[z4a (o:=o) (z6g hG) hg hS]
 cases G with
 | true=>
   rw[if_pos rfl]
   exact h rfl β F a w hS K Q fun v w' F' g1 g2 g3 g4=>hK v w' F' g1 g2 g3 (.cnd _ _ _ (fun _=>g4) (fun h=>by cases h))
 | false=>
   rw[if_neg (by simp)]
   exact hK _ w F (.refl w) (fun _ h=>h) (fun _ h=> .inl h) (.cnd _ _ _ (fun h=>by cases h) (fun _=>rfl))
theorem ziV {c:Call} {fo:Operand} {f:FuncId} {first cap:List Cell} {pf:List Prop} {xs:List Av} {res:Av} (hF:Ct P f xs [] res [] [])
  (hop:o.op= .call c) (hcv:c.callee= .value fo) (hfo:ox σ fo=(pf,.c (.fn (.func f) first cap)))
  (hp:z03 (pf++(oxs σ c.args.toList).1)) (hxs:first.map Av.c++(oxs σ c.args.toList).2++cap.map Av.c=xs) (hok:(xs.all (Av.ok 0)&&res.ok 0)=true):OpY P E o σ res:=
 z7X hF hop hcv hfo hp hxs hok
theorem ziW (nw:Bool) {d:Option Nat} {ps:List Prop} (h:z4D o.dst (z1M nw P σ o)=some (d,ps,x)) (hp:z03 ps):OpY P E o σ x:=by
 intro β F a w hS K Q hK
 obtain⟨z,h1,h2⟩:=z4s (zar h).1 hp hS
 unfold Oper.wp
 rw[h1]
 exact hK z w F (.refl w) (fun _ h=>h) (fun _ h=> .inl h) h2
theorem z3D (h:∀ β F a w,SRb E β F σ a w→∃ v w' F',(execOp a.eval o).run P w= .ok (.value v) w'∧Grow w w'∧(∀ b,F b→F' b)∧(∀ b,F' b→F b∨(w.heap.size≤b∧b<w'.heap.size))∧AvR β F' w' x v):OpY P E o σ x:=by
 intro β F a w hS K Q hK
 obtain⟨v,w',F',h0,h1,h2,h3,h4⟩:=h β F a w hS
 unfold Oper.wp
 rw[h0]
 exact hK v w' F' h1 h2 h3 h4
theorem zkT {s d e:TypeId} {y:Operand} {ps:List Prop} {l:List Int} (hop:o.op= .convert s d y) (hs:P.underlying s=some (.slice e)) (he:P.underlying e=some (.int .u8)) (hd:P.underlying d=some .string)
  (hx:z1B σ (ox σ y)=some (ps,.ints .u8 l)) (hp:z03 ps):OpY P E o σ (lv (.string (strOfNums l))):=by
 refine z3D fun β F a w hS=>?_
 obtain⟨ad,m,c,vs,hv,hm,hmc,hr,hcell⟩:=z3p hS hx hp (oxR hS y)
 simp only[RC] at hr
 simp only[z0f] at hm
 refine⟨.string (strOfNums l),w,F,?_,.refl w,fun _ h=>h,fun _ h=> .inl h,.c (.lf (.v _ rfl))⟩
 simp only[execOp,hop,hv,Sem.run_bind]
 cases ad with
 | none=>
   have hl:l= []:=by
    cases l with
    | nil=>rfl
    | cons z l=>
      obtain⟨b,o',h,_⟩:=hcell (by rw[hr]; simp)
      cases h
   subst hl
   rw[run_convert_bytes_nil w s e hs he _ _ d hd]
   rfl
 | some b=>
   by_cases hl:l= []
   ·subst hl
    simp only[List.length_nil] at hm
    subst hm
    obtain⟨b1,b2,b3⟩:=b
    have:(convert s d (.slice (some ⟨b1,b2,b3⟩) 0 c)).run P w= .ok (.string (strOfNums [])) w:=by
     rw[run_convert_bytes_string w s d e _ 0 c hs he hd,run_bytesToString w _ 0 c [] (by simp[loadCells,loadCellsFrom])]
     rfl
    rw[this]; rfl
   ·obtain⟨b',o',h1,h2⟩:=hcell (by rw[hr]; simpa using hl)
    obtain rfl:=Option.some.inj h1
    rw[run_convert_bytes_arg w s e hs he b' o' m c l hm.symm (fun i hi=>by
     refine h2 i _ ?_
     rw[hr]
     simp[show i<l.length by omega]) d hd]
    rfl
theorem zgY {s d e:TypeId} {y:Operand} {ps:List Prop} {t:ByteArray} (hop:o.op= .convert s d y) (hs:P.underlying s=some .string) (hd:P.underlying d=some (.slice e)) (he:P.underlying e=some (.int .u8))
  (hx:ox σ y=(ps,lv (.string t))) (hp:z03 ps) (hsz:t.size≤maxLen):OpY P E o σ (.c (.lf (.ints .u8 (bs t)))):=by
 refine z3D fun β F a w hS=>?_
 have hv:=oxR hS y
 rw[hx] at hv
 have hv:=(hv hp).val
 have hrun:=Lib.run_convert_string_bytes (P:=P) w s d e t hs hd he
 have hb:=Lib.bytesWorld_size w e t
 refine⟨.slice (some ⟨w.heap.size,0,none⟩) t.size (grownCap w t.size 0 e),Lib.bytesWorld w e t,fun b=>F b∨b=w.heap.size,?_,⟨rfl,rfl,rfl,by omega,fun k hk=>Lib.bytesWorld_at_old w e t k hk⟩,fun _ h=> .inl h,fun b hb'=>?_,?_⟩
 ·simp only[execOp,hop,hv,Sem.run_bind,hrun,Result.andThen_ok]
  rfl
 ·rcases hb' with h | h
  ·exact .inl h
  ·exact .inr (by omega)
 ·have hsz':t.size=(bs t).length:=by
   rw[bs,List.length_map]; exact(Array.length_toList).symm
  refine .c (.lf (.ints _ _ _ _ _ hsz' (grownCap_ge w t.size 0 e) (grownCap_le_maxLen w t.size 0 e hsz) fun hne=>⟨w.heap.size,0,rfl,.inr rfl,fun i x hx=>?_⟩))
  have hlt:i<t.size:=by rw[hsz']; exact(List.getElem?_eq_some_iff.1 hx).1
  rw[Nat.zero_add,Lib.bytesWorld_cell w e t i hlt]
  have hlt2:i<t.data.size:=hlt
  simp only[bs,List.getElem?_map,Option.map_eq_some_iff] at hx
  obtain⟨b,hb1,rfl⟩:=hx
  rw[List.getD_eq_getElem?_getD,hb1]
  rfl
theorem z9V {rest:List Oper} {t t' e:TypeId} {neg:Bool} {y:Operand} {ps:List Prop} {d:Leaf} (hop:o.op= .binOp (if neg then .neq else .eql) t y (.const (.slice none 0 0)) t') (hg:o.guard=none) (hdd:z0e E.n o.dst=true)
  (ht:P.underlying t=some (.slice e)) (hx:z1B σ (ox σ y)=some (ps,d)) (hp:z03 ps) (hsz:szD d≠0) (hk:∀ b:Bool,((b !=neg)=true→z0f d=0)→WL P E ops Q rest (σ.put o.dst (lv (.bool b)))):WL P E ops Q (o::rest) σ:=by
 intro a w hS
 obtain⟨β,F,hS⟩:=hS
 obtain⟨ad,m,c,vs,hv,hm,hmc,hr,hcell⟩:=z3p hS hx hp (oxR hS y)
 have hlen:ad=none→z0f d=0:=by
  rintro rfl
  by_cases hvs:vs= []
  ·have:=hr.length
   rw[hvs] at this
   rcases Nat.eq_zero_or_pos (z0f d) with h | h
   ·exact h
   ·have:=Nat.mul_pos h (Nat.pos_of_ne_zero hsz)
    simp at*
    omega
  ·obtain⟨_,_,h,_⟩:=hcell hvs
   cases h
 refine wpList_plain hg fun K hK=>?_
 unfold Oper.wp
 have hrun:(execOp a.eval o).run P w= .ok (.value (.bool (ad.isNone !=neg))) w:=by
  simp only[execOp,hop,hv,Sem.run_bind]
  cases neg
  ·simp[eqGuard,binOp,Op.equal,Op.maxDepth,Lib.run_equalIn_slice_nil w 9999 t e ad m c 0 0 ht,Act.eval]
  ·simp[eqGuard,binOp,Op.equal,Op.maxDepth,Lib.run_equalIn_slice_nil w 9999 t e ad m c 0 0 ht,Act.eval]
 rw[hrun]
 refine hK _ _ (hk (ad.isNone !=neg) (fun h=>?_) _ _ ⟨β,F,hS.put (.c (.lf (.v _ rfl))) (z0x hdd)⟩)
 refine hlen ?_
 cases ad<;>cases neg<;>simp_all
end
end Go.Sx
namespace Go.Sx
open Go
set_option linter.unusedVariables false
def z9a (d:Leaf) (j:Nat):Cell→Cell→Prop
 | .own i sz off len,.lf (.ints k y)=>i=j∧sz=1∧(match d with | .ints k' l=>k=k'∧off+len≤l.length∧y=(l.drop off).take len | _=>False)
 | .own i sz off len,.lf (.recs s y)=>i=j∧sz=s∧(match d with | .recs s' l=>s=s'∧off=0∧len≤l.length∧y=l.take len | _=>False)
 | c,c'=>c'=c.kill j
def z6h (d:Leaf) (j:Nat):List Cell→List Cell→Prop
 | [],[]=>True
 | c::l,c'::l'=>z9a d j c c'∧z6h d j l l'
 | _,_=>False
def z8z (d:Leaf) (j:Nat):Av→Av→Prop
 | .c c,.c c'=>z9a d j c c'
 | .agg l,.agg l'=>z6h d j l l'
 | .ai k l,.ai k' l'=>k=k'∧l=l'
 | _,_=>False
def z7Z (d:Leaf) (j:Nat):List Av→List Av→Prop
 | [],[]=>True
 | c::l,c'::l'=>z8z d j c c'∧z7Z d j l l'
 | _,_=>False
def zat (d:Leaf) (j:Nat):Av→Av→Prop
 | .tup l,.tup l'=>z7Z d j l l'
 | x,x'=>z8z d j x x'
section
variable {β β':Nat→Option Nat} {F F':Nat→Prop} {w:World} {j:Nat} {d:Leaf}
theorem z9a.sound (hB:z0p β F w j (.row d)) (hg:∀ g,β j=some g→F' g) (hF:∀ b,F b→F' b) (hβ:∀ i,i≠j→β' i=β i) {c c':Cell} {v:Value} (h:z9a d j c c') (hv:CellR β F w c v):CellR β' F' w c' v:=by
 have hm:∀ {c:Cell} {v:Value},CellR β F w c v→CellR β' F' w (c.kill j) v:=fun hv=>(hv.kill (β':=β') hβ).mono (fun _ _ h=>h) (fun b hb=>⟨hF b hb,rfl⟩) (fun _ _ h=>h)
 unfold z9a at h
 split at h
 ·obtain⟨rfl,rfl,h⟩:=h
  rename_i i off len k y
  split at h
  ·obtain⟨rfl,h2,rfl⟩:=h
   rename_i k l
   cases hv with | own _ _ _ _ a c hc hmx hh=>
   refine .lf (.ints _ _ _ _ _ (by simp; omega) hc hmx fun hne=>?_)
   have hlen:0<len:=by
    rcases Nat.eq_zero_or_pos len with h | h
    ·subst h; simp at hne
    ·exact h
   rcases hh with rfl |⟨g,hgj,rfl,hcap⟩
   ·omega
   ·refine⟨g,off,rfl,hg g hgj,fun i x hx=>?_⟩
    rcases hB with ⟨h0,_⟩ |⟨g',cur,hg',hrow,hcs⟩
    ·subst h0; simp at hne
    ·rw[hgj] at hg'
     obtain rfl:=Option.some.inj hg'
     rw[hrow.cell]
     rw[List.getElem?_take] at hx
     split at hx
     ·rw[List.getElem?_drop] at hx
      exact hcs _ x hx
     ·cases hx
  ·cases h
 ·obtain⟨rfl,rfl,h⟩:=h
  rename_i i sz off len y
  split at h
  ·obtain⟨rfl,rfl,h2,rfl⟩:=h
   rename_i l
   cases hv with | own _ _ _ _ a c hc hmx hh=>
   obtain⟨hb1,hb2⟩:=hB
   have key:∀ g cur,β i=some g→Row w g cur→(∀ i r k x,l[i]? =some r→r[k]? =some x→∃ v,cur[i*sz+k]? =some v∧LfR F w x v)→
     LfR F' w (.recs sz (l.take len)) (.slice a len c):=by
    intro g cur hgj hrow hcs
    refine .recs _ _ _ _ _ (fun i k=>cur.getD (i*sz+k) undef) (by simp; omega) hc hmx (fun r hr=>hb1 r (List.mem_of_mem_take hr)) (fun hne=>?_) (fun i r k x hi hk=>?_)
    ·have hlen:0<len:=by
      rcases Nat.eq_zero_or_pos len with h | h
      ·subst h; simp at hne
      ·exact h
     rcases hh with rfl |⟨g',hgj',rfl,hcap⟩
     ·omega
     ·rw[hgj] at hgj'
      obtain rfl:=Option.some.inj hgj'
      refine⟨g,0,rfl,hg g hgj,fun i r k x hi hk=>?_⟩
      rw[Nat.zero_add,hrow.cell]
      rw[List.getElem?_take] at hi
      split at hi
      ·obtain⟨u,hu,_⟩:=hcs i r k x hi hk
       rw[hu]
       simp[hu]
      ·cases hi
    ·rw[List.getElem?_take] at hi
     split at hi
     ·obtain⟨u,hu,hl⟩:=hcs i r k x hi hk
      simp only[Array.getD_eq_getD_getElem?,hu,Option.getD_some]
      exact hl.mono fun b hb=>⟨hF b hb,rfl⟩
     ·cases hi
   rcases hb2 with ⟨h0,_⟩ |⟨g,cur,hgj,hrow,hcs⟩
   ·subst h0
    refine .lf (.recs _ _ _ _ _ (fun _ _=>undef) (by simp at*; omega) hc hmx (fun r hr=>by simp at hr) (fun hne=>by simp at hne) (fun i r k x hi=>by simp at hi))
   ·exact .lf (key g cur hgj hrow hcs)
  ·cases h
 ·subst h
  exact hm hv
theorem z6h.get:∀ {l l':List Cell},z6h d j l l'→l.length=l'.length∧∀(i:Nat) (c':Cell),l'[i]? =some c'→∃ c,l[i]? =some c∧z9a d j c c'
 | [],[],_=>⟨rfl,fun i c' h=>by simp at h⟩
 | c::l,c'::l',h=>by
   obtain⟨h1,h2⟩:=z6h.get h.2
   refine⟨by simp[h1],fun i x hx=>?_⟩
   match i,hx with
   | 0,hx=>simp at hx; subst hx; exact⟨c,rfl,h.1⟩
   | i+1,hx=>exact h2 i x (by simpa using hx)
 | [],_::_,h=>h.elim
 | _::_,[],h=>h.elim
theorem z8z.sound (hB:z0p β F w j (.row d)) (hg:∀ g,β j=some g→F' g) (hF:∀ b,F b→F' b) (hβ:∀ i,i≠j→β' i=β i) {x x':Av} {v:Value} (h:z8z d j x x') (hv:AvR β F w x v) (hu:x≠ .c .un):AvR β' F' w x' v:=by
 unfold z8z at h
 split at h
 ·cases hv with
  | c hv=>exact .c (h.sound hB hg hF hβ hv)
  | any=>exact absurd rfl hu
 ·obtain⟨h1,h2⟩:=h.get
  cases hv with | agg _ cs h3 h4=>
  refine .agg _ _ (by rw[h3,h1]) fun i x v hx hv=>?_
  obtain⟨c,hc,hf⟩:=h2 i x hx
  exact hf.sound hB hg hF hβ (h4 i c v hc hv)
 ·obtain⟨rfl,rfl⟩:=h
  cases hv with | ai=>exact .ai _ _
 ·cases h
theorem z7Z.get:∀ {l l':List Av},z7Z d j l l'→l.length=l'.length∧∀(i:Nat) (c':Av),l'[i]? =some c'→∃ c,l[i]? =some c∧z8z d j c c'
 | [],[],_=>⟨rfl,fun i c' h=>by simp at h⟩
 | c::l,c'::l',h=>by
   obtain⟨h1,h2⟩:=z7Z.get h.2
   refine⟨by simp[h1],fun i x hx=>?_⟩
   match i,hx with
   | 0,hx=>simp at hx; subst hx; exact⟨c,rfl,h.1⟩
   | i+1,hx=>exact h2 i x (by simpa using hx)
 | [],_::_,h=>h.elim
 | _::_,[],h=>h.elim
def zbO:Av→Bool
 | .c .un=>false
 | .tup xs=>xs.all fun x=>match x with | .c .un=>false | _=>true
 | _=>true
theorem zat.sound (hB:z0p β F w j (.row d)) (hg:∀ g,β j=some g→F' g) (hF:∀ b,F b→F' b) (hβ:∀ i,i≠j→β' i=β i) {x x':Av} {v:Value} (h:zat d j x x') (hv:AvR β F w x v) (hu:zbO x=true):AvR β' F' w x' v:=by
 unfold zat at h
 split at h
 ·obtain⟨h1,h2⟩:=h.get
  cases hv with | tup _ cs h3 h4=>
  refine .tup _ _ (by rw[h3,h1]) fun i x v hx hv=>?_
  obtain⟨c,hc,hf⟩:=h2 i x hx
  refine hf.sound hB hg hF hβ (h4 i c v hc hv) ?_
  rintro rfl
  have:=List.all_eq_true.1 hu _ (List.mem_of_getElem? hc)
  simp at this
 ·refine h.sound hB hg hF hβ hv ?_
  rintro rfl
  cases hu
end
def St.setAll (σ:St):List (Nat×Av)→St
 | []=>σ
 |(i,x)::l=>(σ.set i x).setAll l
theorem SRb.freeze {E:Env} {β:Nat→Option Nat} {F:Nat→Prop} {σ:St} {a:Act} {w:World} (h:SRb E β F σ a w) {j:Nat} {d:Leaf} (hj:σ.hp j= .row d) (hjn:E.nb≤j) (ss:List (Nat×Av))
  (hs:∀ p,p ∈ ss→zat d j (σ.tm p.1) p.2∧zbO (σ.tm p.1)=true):SR E ((σ.kill j).setAll ss) a w:=by
 have hgone:σ.hp j≠ .gone:=by rw[hj]; intro h; cases h
 have hB:=h.hp j
 rw[hj] at hB
 let β':Nat→Option Nat:=fun i=>if i=j then none else β i
 let F':Nat→Prop:=fun b=>F b∨β j=some b
 have hβ:∀ i,i≠j→β' i=β i:=fun i hi=>if_neg hi
 have hk:=h.kill j hjn
 have hF:∀ b,F b→F' b:=fun b hb=> .inl hb
 -- the state with the block gone, in the greater F
 have hk2:SRb E β' F' (σ.kill j) a w:=by
  refine⟨fun i=>(hk.tm i).mono (fun _ _ h=>h) (fun b hb=>⟨hF b hb,rfl⟩) (fun _ _ h=>h),hk.sz,hk.df,fun i=>?_,hk.inj,fun i g hi e=>?_,hk.lt,fun b hb=>?_,hk.keep,hk.bb,hk.nbl⟩
  ·have:=hk.hp i
   revert this
   cases (σ.kill j).hp i with
   | gone=>exact fun _=>trivial
   | map es=>
     rintro⟨g,ms,ck,e1,e2,e3,e4⟩
     exact⟨g,ms,ck,e1,e2,e3,fun i k x hx=>let ⟨e,q1,q2,q3⟩:=e4 i k x hx; ⟨e,q1,q2,q3.mono fun b hb=>⟨hF b hb,rfl⟩⟩⟩
   | raw g ob=>
     exact fun h=>h
   | mapS g ms ck es=>
     rintro⟨e1,e2,e3,e4⟩
     exact⟨e1,e2,e3,fun i k x hx=>let ⟨e,q1,q2,q3⟩:=e4 i k x hx; ⟨e,q1,q2,q3.mono fun b hb=>⟨hF b hb,rfl⟩⟩⟩
   | cells cs=>
     rintro⟨g,cur,e1,e2,e3,e4⟩
     exact⟨g,cur,e1,e2,e3,fun i x v hx hv=>(e4 i x v hx hv).mono (fun _ _ h=>h) (fun b hb=>⟨hF b hb,rfl⟩) (fun _ _ h=>h)⟩
   | fr vs cs=>
     rintro⟨g,cur,e1,e2,e3,e4⟩
     exact⟨g,cur,e1,e2,e3,fun i x v hx hv=>(e4 i x v hx hv).mono (fun _ _ h=>h) (fun b hb=>⟨hF b hb,rfl⟩) (fun _ _ h=>h)⟩
   | row d=>
     cases d with
     | ints k l=>exact fun h=>h
     | recs sz l=>
       rintro⟨e1,e2⟩
       refine⟨e1,?_⟩
       rcases e2 with e2 |⟨g,cur,e2,e3,e4⟩
       ·exact .inl e2
       ·refine .inr ⟨g,cur,e2,e3,fun i r k x hi hk=>?_⟩
        obtain⟨u,hu,hl⟩:=e4 i r k x hi hk
        exact⟨u,hu,hl.mono fun b hb=>⟨hF b hb,rfl⟩⟩
     | v=>exact fun h=>h
     | obj=>exact fun h=>h
  ·obtain⟨a1,a2,a3⟩:=hk.own i g hi e
   refine⟨a1,a2,?_⟩
   rintro(hf | hf)
   ·exact a3 hf
   ·have e:(if i=j then none else β i)=some g:=e
    by_cases hij:i=j
    ·simp[hij] at e
    ·simp only[hij,if_false] at e
     have hi':σ.hp i≠ .gone:=by
      simp only[St.kill,hij,decide_false] at hi
      exact Blk.kill_ne hi
     exact hij (h.inj i j g hi' hgone e hf)
  ·rcases hb with hb | hb
   ·exact h.fr b hb
   ·obtain⟨a1,a2,a3⟩:=h.own j b hgone hb
    refine⟨a1,?_⟩
    rcases a2 with a2 | a2
    ·exact .inr a2
    ·exact .inl (E.hM0 b a2)
 refine⟨β',F',?_⟩
 have key:∀(ss:List (Nat×Av)) (τ:St),SRb E β' F' τ a w→(∀ p,p ∈ ss→AvR β' F' w p.2 (a.tmps.getD p.1 undef))→SRb E β' F' (τ.setAll ss) a w:=by
  intro ss
  induction ss with
  | nil=>intro τ hτ _; exact hτ
  | cons p ss ih=>
    intro τ hτ hp
    obtain⟨i,x⟩:=p
    refine ih _ ?_ (fun q hq=>hp q (List.mem_cons_of_mem _ hq))
    refine⟨fun k=>?_,hτ.sz,hτ.df,hτ.hp,hτ.inj,hτ.own,hτ.lt,hτ.fr,hτ.keep,hτ.bb,hτ.nbl⟩
    by_cases hk:k=i
    ·subst hk; simpa[St.set] using hp (k,x) (List.mem_cons_self ..)
    ·simpa[St.set,hk] using hτ.tm k
 refine key ss _ hk2 fun p hp=>?_
 obtain⟨h1,h2⟩:=hs p hp
 exact h1.sound hB (fun g hg=> .inr hg) hF hβ (h.tm p.1) h2
section
variable {P:Program} {E:Env} {ops:Array Oper} {Q:Exit→Act→World→Prop} {rest:List Oper} {σ:St}
def zgZ (σ:St) (d:Leaf) (j:Nat) (ss:List (Nat×Av)):Prop:=z03 (ss.map fun p=>zat d j (σ.tm p.1) p.2)∧(ss.all fun p=>zbO (σ.tm p.1))=true
theorem SR.freeze {a:Act} {w:World} (h:SR E σ a w) (j:Nat) (ss:List (Nat×Av)) {d:Leaf} (hj:σ.hp j= .row d) (hnb:E.nb=0) (hs:zgZ σ d j ss):SR E ((σ.kill j).setAll ss) a w:=by
 obtain⟨β,F,h⟩:=h
 refine h.freeze hj (by omega) ss fun p hp=>⟨z1U hs.1 p hp,List.all_eq_true.1 hs.2 p hp⟩
theorem zcD {e:Exit} (j:Nat) (ss:List (Nat×Av)) {d:Leaf} (hj:σ.hp j= .row d) (hnb:E.nb=0) (hs:zgZ σ d j ss) (h:N E Q e ((σ.kill j).setAll ss)):N E Q e σ:=fun a w hS=>h a w (hS.freeze j ss hj hnb hs)
theorem Ct.freeze {f:FuncId} {args:List Av} {res res':Av} {d:Leaf} (h:Ct P f args [] res [] [.row d]) (hf:zat d 0 res res') (hu:zbO res=true):Ct P f args [] res' [] []:=by
 obtain⟨h1,h2,h3⟩:=h
 refine⟨rfl,h2,fun w β F vs c1 c2 c3 c4 c5 c6 c7 c8=>?_⟩
 refine(h3 w β F vs c1 c2 c3 c4 c5 c6 c7 c8).mono fun e w' hq=>?_
 obtain⟨v,β',F',rfl,k1,k2,k3,k4⟩:=hq
 have hB:=k3 0 _ rfl
 refine⟨v,fun i=>if i=0 then none else β' i,fun b=>F' b∨β' 0=some b,rfl,?_,fun i b h=>by simp at h,fun i b h=>by simp at h,?_⟩
 ·exact hf.sound (β':=fun i=>if i=0 then none else β' i) (F':=fun b=>F' b∨β' 0=some b) hB (fun g hg=> .inr hg) (fun b hb=> .inl hb) (fun i hi=>if_neg hi) k1 hu
 ·refine⟨fun i hi=>absurd hi (Nat.not_lt_zero _),fun i j g hi=>absurd hi (Nat.not_lt_zero _),fun i g hi=>absurd hi (Nat.not_lt_zero _),fun i g hi=>absurd hi (Nat.not_lt_zero _),fun b hb=>?_,k4.keep⟩
  rcases hb with hb | hb
  ·exact k4.fr b hb
  ·exact⟨(k4.own 0 b (by simp) hb).1,.inr (k4.new 0 b (by simp) hb)⟩
end
end Go.Sx
namespace Go.Sx
open Go
set_option linter.unusedVariables false
def z8A {R:Type}:List Int→(List Int→R)→R
 | [],k=>k []
 | x::l,k=>z8A l fun l=>k (x::l)
theorem z79 {R:Type}:∀(l:List Int) (k:List Int→R),z8A l k=k l
 | [],k=>rfl
 | x::l,k=>z79 l _
def z2U {R:Type}:List Cell→(List Cell→R)→R
 | [],k=>k []
 | x::l,k=>z9S x fun x=>z2U l fun l=>k (x::l)
theorem z4E {R:Type}:∀(l:List Cell) (k:List Cell→R),z2U l k=k l
 | [],k=>rfl
 | x::l,k=>by simp only[z2U,zb7,z4E l]
def z2C {R:Type} (r:Option (List Cell)) (k:List Cell→Option R):Option R:=
 match r with
 | some l=>z2U l k
 | none=>none
theorem z3P {r:Option (List Cell)} {l:List Cell} (h:z2C r some=some l):r=some l:=by
 cases r with
 | none=>cases h
 | some l'=>simpa[z2C,z4E] using h
def zpF (P:Program) (e:TypeId) (n:Nat) (d:Option Nat) (r:Option (List Prop×List Cell)):Option (Option Nat×List Prop×IntKind×List Int):=
 match r with
 | some (ps,out)=>match z2H P e 1 n out with
   | some (.ints k l)=>z0j d fun d=>z6G ps fun ps=>z8A l fun l=>some (d,ps,k,l)
   | _=>none
 | none=>none
theorem Cell.ren1_congr {ρ ρ':Nat→Nat} {n:Nat} (h:∀ i,i<n→ρ i=ρ' i) {x:Cell} (hx:x.flat n=true):x.ren1 ρ=x.ren1 ρ':=by
 cases x with
 | own i sz off len=>simp only[Cell.ren1,h i (z1H hx)]
 | ptr i off=>simp only[Cell.ren1,h i (z1H hx)]
 | pel i sz e k=>simp only[Cell.ren1,h i (z1H hx)]
 | tptr i t=>simp only[Cell.ren1,h i (z1H hx)]
 | map i=>simp only[Cell.ren1,h i (z1H hx)]
 | town i off len t=>simp only[Cell.ren1,h i (z1H hx)]
 | _=>rfl
theorem Cell.ren_congr {ρ ρ':Nat→Nat} {n:Nat} (h:∀ i,i<n→ρ i=ρ' i) {x:Cell} (hx:x.ok n=true):x.ren ρ=x.ren ρ':=by
 cases x with
 | fn f first cap=>
   simp only[Cell.ok,Bool.and_eq_true,List.all_eq_true] at hx
   simp only[Cell.ren]
   rw[List.map_congr_left (fun x hx'=>Cell.ren1_congr h (hx.1 x hx')),List.map_congr_left (fun x hx'=>Cell.ren1_congr h (hx.2 x hx'))]
 | lf x=>rfl
 | un=>rfl
 | own i sz off len=>exact Cell.ren1_congr (x:= .own i sz off len) h hx
 | ptr i off=>exact Cell.ren1_congr (x:= .ptr i off) h hx
 | pel i sz e k=>exact Cell.ren1_congr (x:= .pel i sz e k) h hx
 | tptr i t=>exact Cell.ren1_congr (x:= .tptr i t) h hx
 | map i=>exact Cell.ren1_congr (x:= .map i) h hx
 | town i off len t=>exact Cell.ren1_congr (x:= .town i off len t) h hx
 | bnd f xs=>rfl
theorem Av.ren1_congr {ρ ρ':Nat→Nat} {n:Nat} (h:∀ i,i<n→ρ i=ρ' i) {x:Av} (hx:x.ok1 n=true):x.ren1 ρ=x.ren1 ρ':=by
 cases x with
 | c x=>simp only[Av.ren1,Cell.ren_congr h hx]
 | agg xs=>simp only[Av.ren1]; rw[List.map_congr_left (fun x hx'=>Cell.ren_congr h (List.all_eq_true.1 hx x hx'))]
 | _=>rfl
theorem Av.ren_congr {ρ ρ':Nat→Nat} {n:Nat} (h:∀ i,i<n→ρ i=ρ' i) {x:Av} (hx:x.ok n=true):x.ren ρ=x.ren ρ':=by
 cases x with
 | tup xs=>simp only[Av.ren]; rw[List.map_congr_left (fun x hx'=>Av.ren1_congr h (List.all_eq_true.1 hx x hx'))]
 | c x=>exact Av.ren1_congr (x:= .c x) h hx
 | agg x=>exact Av.ren1_congr (x:= .agg x) h hx
 | ai k l=>rfl
 | cnd g x=>rfl
theorem z02 {P:Program} {t:TypeId} {i:TypeInfo} (h:P.info? t=some i) (hz:(i.zero.all fun z=>z.cells.toList.all (·.oneCell'))=true):z01 P t:=by
 intro i' z h1 h2
 rw[h] at h1
 obtain rfl:=Option.some.inj h1
 rw[h2] at hz
 simpa using hz
section
variable {P:Program} {E:Env} {ops:Array Oper} {Q:Exit→Act→World→Prop} {rest:List Oper} {o:Oper} {σ:St}
theorem z1X {t e:TypeId} {n by_:Nat} {parts:Array (Nat×Operand)} {dd:Option Nat} {ps:List Prop} {k:IntKind} {l:List Int} (hop:o.op= .buildSlice t n parts) (hg:o.guard=none)
  (hf:zpF P e n o.dst (z1A (fun i=>some (i*1,1)) (List.replicate (n*1) .un) (parts.toList.map fun(i,x)=>(i,ox (fresh σ o.dst) x)))=some (dd,ps,k,l))
  (hd:z0e E.n dd=true) (hE:Elt P t e 1 by_) (hz:z01 P e) (hp:z03 ps) (hn:n≤16777216∧l.length=n)
  (hk:WL P E ops Q rest (((σ.kill (nk dd 0)).seth (nk dd 0) (.row (.ints k l))).put dd (.c (.own (nk dd 0) 1 0 l.length)))):WL P E ops Q (o::rest) σ:=by
 unfold zpF at hf
 split at hf
 ·rename_i ps' out hr
  split at hf
  ·rename_i k' l' hdd
   simp only[z0t,z5n,z79,Option.some.injEq,Prod.mk.injEq] at hf
   obtain⟨h1,rfl,rfl,rfl⟩:=hf
   subst h1
   refine zkc hop hg hd hE hz hr hp hdd ⟨by omega,hn.1,hn.2,rfl⟩ ?_
   rw[hn.2] at hk
   exact hk
  ·cases hf
 ·cases hf
theorem z2I {t e:TypeId} {by_:Nat} {c:Call} {x y:Operand} {dd:Option Nat} {px qs:List Prop} {j n:Nat} {k:IntKind} {l l2:List Int} (hop:o.op= .call c) (hc:c.callee= .builtin .append) (ha:c.args.toList= [x,y]) (hty:c.argTypes.toList= [t,t]) (hg:o.guard=none)
  (hdf:z0j o.dst some=some dd) (hd:z0e E.n dd=true)
  (hE:Elt P t e 1 by_) (hx:ox σ x=(px,.c (.own j 1 0 n))) (hb:σ.hp j= .row (.ints k l)) (hj64:Nat.ble 64 j=true) (hy:z1B σ (ox σ y)=some (qs,.ints k l2)) (hp:z03 (px++qs)) (hnl:n=l.length)
  (hlim:l.length+l2.length≤4294967296∧by_≤4096)
  (hk:WL P E ops Q rest (((σ.kill j).seth j (.row (.ints k (l++l2)))).put dd (.c (.own j 1 0 (l++l2).length)))):WL P E ops Q (o::rest) σ:=by
 simp only[z0t,Option.some.injEq] at hdf
 subst hdf
 subst hnl
 refine zcC (d':= .ints k (l++l2)) hop hc ha hty hg hd hE hx hb hj64 hy hp (by simp[z0Q,z40]) ⟨rfl,by decide,by simp[z0f]⟩ (by simpa[z0f] using hlim) ?_
 rw[List.length_append] at hk
 exact hk
theorem zau {t e:TypeId} {x y:Operand} {dd:Option Nat} {px py:List Prop} {k:IntKind} {kl kc:IntKind} {n c:Int} {by_:Nat} (hop:o.op= .makeSlice t x y) (hg:o.guard=none)
  (hdf:z0j o.dst some=some dd) (hd:z0e E.n dd=true) (hE:Elt P t e 1 by_) (hz:(P.info? e).bind (·.zero)=some (.int k 0))
  (hx:ox (fresh σ o.dst) x=(px,lv (.int kl n))) (hy:ox (fresh σ o.dst) y=(py,lv (.int kc c))) (hp:z03 (px++py)) (m:Nat) (hm:n=m) (hn:0≤n∧n≤c∧c≤9223372036854775807∧(by_:Int)*c≤281474976710656)
  (hk:WL P E ops Q rest (((σ.kill (nk dd 0)).seth (nk dd 0) (.row (.ints k (List.replicate m 0)))).put dd (.c (.own (nk dd 0) 1 0 m)))):WL P E ops Q (o::rest) σ:=by
 simp only[z0t,Option.some.injEq] at hdf
 subst hdf
 subst hm
 refine zoY hop hg hd hE hz hx hy hp hn ?_
 simpa[fresh] using hk
theorem z0E {t:TypeId} {dd:Option Nat} {cs:List Cell} (hop:o.op= .alloc t) (hg:o.guard=none) (hdf:z0j o.dst some=some dd) (hd:z0e E.n dd=true) (hz:z2C (z68 P t) some=some cs) (hz0:z01 P t)
  (hk:WL P E ops Q rest (((σ.kill (nk dd 0)).seth (nk dd 0) (.cells cs)).put dd (.c (.ptr (nk dd 0) 0)))):WL P E ops Q (o::rest) σ:=by
 simp only[z0t,Option.some.injEq] at hdf
 subst hdf
 exact zkx hop hg hd (z3P hz) hz0 hk
theorem z1v {t:TypeId} {x:Operand} {dd:Option Nat} {ps:List Prop} {y:Av} {cs:List Cell} (hop:o.op= .box t x) (hg:o.guard=none) (hdf:z0j o.dst some=some dd) (hd:z0e E.n dd=true) (hx:ox (σ.kill (nk dd 0)) x=(ps,y)) (hp:z03 ps) (hcs:z2C (z2f y) some=some cs) (hu:z3G y=false)
  (hk:WL P E ops Q rest (((σ.kill (nk dd 0)).seth (nk dd 0) (.cells cs)).put dd (.c (.ptr (nk dd 0) 0)))):WL P E ops Q (o::rest) σ:=by
 simp only[z0t,Option.some.injEq] at hdf
 subst hdf
 exact zrv hop hg hd hx hp (z3P hcs) hu hk
theorem z0m {t:TypeId} {x y:Operand} {px py:List Prop} {j off:Nat} {v:Av} {cs xs cs':List Cell} (hop:o.op= .store t x y) (hg:o.guard=none) (hdn:o.dst=none) (hx:ox σ x=(px,.c (.ptr j off))) (hy:ox σ y=(py,v)) (hp:z03 (px++py))
  (hb:σ.hp j= .cells cs) (hxs:z2f v=some xs) (hu:z3G v=false) (h1:P.cellsOf t=xs.length) (h2:(P.info? t).isSome=true) (h3:Nat.ble (off+xs.length) cs.length=true) (hf:z2U (z6X cs off xs) some=some cs')
  (hk:WL P E ops Q rest (σ.seth j (.cells cs'))):WL P E ops Q (o::rest) σ:=by
 simp only[z4E,Option.some.injEq] at hf
 subst hf
 exact zky hop hg hdn hx hy hp hb hxs hu ⟨h1,h2,Nat.le_of_ble_eq_true h3⟩ hk
theorem zav {dd:Option Nat} {c:Call} {fo:Operand} {f:FuncId} {first cap:List Cell} {pf:List Prop} {xs:List Av} {res:Av} {d:Leaf} {r:Av} (hF:Ct P f xs [] res [] [.row d])
  (hop:o.op= .call c) (hg:o.guard=none) (hdf:z0j o.dst some=some dd) (hd:z0e E.n dd=true) (hcv:c.callee= .value fo) (hfo:ox (σ.kill (nk dd 0)) fo=(pf,.c (.fn (.func f) first cap)))
  (hp:z03 (pf++(oxs (σ.kill (nk dd 0)) c.args.toList).1)) (hxs:first.map Av.c++(oxs (σ.kill (nk dd 0)) c.args.toList).2++cap.map Av.c=xs) (hok:(xs.all (Av.ok 0)&&res.ok 1)=true)
  (hr:z2v (res.ren (fun _=>nk dd 0)) some=some r)
  (hk:WL P E ops Q rest (((σ.kill (nk dd 0)).seth (nk dd 0) (.row d)).put dd r)):WL P E ops Q (o::rest) σ:=by
 simp only[z0t,Option.some.injEq] at hdf
 subst hdf
 simp only[z2A,Option.some.injEq] at hr
 subst hr
 simp only[Bool.and_eq_true] at hok
 have e1:∀ {n:Nat} {l:List Av},l.all (Av.ok 0)=true→∀ ρ:Nat→Nat,l.map (Av.ren ρ)=l:=by
  intro n l hl ρ
  have:l.map (Av.ren ρ)=l.map (Av.ren id):=List.map_congr_left fun x hx=>Av.ren_congr (n:=0) (fun i h=>absurd h (Nat.not_lt_zero _)) (List.all_eq_true.1 hl x hx)
  rw[this]
  clear this hl
  induction l with
  | nil=>rfl
  | cons x l ih=>rw[List.map_cons,ih,Av.ren_id]
 have e2:res.ren (fun _=>nk o.dst 0)=res.ren (z0B [] o.dst 1):=Av.ren_congr (n:=1) (fun i h=>by
  obtain rfl:i=0:=by omega
  rfl) hok.2
 rw[e2] at hk
 exact z0w [] hF hop hg hd hcv hfo hp ⟨by rw[e1 (n:=0) hok.1]; exact hxs,trivial,trivial,by
  simp only[List.length_nil,List.length_singleton,List.all_nil,List.all_cons,Blk.ok,Bool.and_true,hok.1,hok.2,Nat.zero_add]
  rfl⟩ hk
theorem z1C {dd:Option Nat} {c:Call} {fo:Operand} {f:FuncId} {first cap:List Cell} {pf:List Prop} {xs:List Av} {res:Av} {r:Av} (hF:Ct P f xs [] res [] [])
  (hop:o.op= .call c) (hg:o.guard=none) (hdf:z0j o.dst some=some dd) (hd:z0e E.n dd=true) (hcv:c.callee= .value fo) (hfo:ox σ fo=(pf,.c (.fn (.func f) first cap)))
  (hp:z03 (pf++(oxs σ c.args.toList).1)) (hxs:first.map Av.c++(oxs σ c.args.toList).2++cap.map Av.c=xs) (hok:(xs.all (Av.ok 0)&&res.ok 0)=true)
  (hr:z2v res some=some r)
  (hk:WL P E ops Q rest (σ.put dd r)):WL P E ops Q (o::rest) σ:=by
 simp only[z0t,Option.some.injEq] at hdf
 subst hdf
 simp only[z2A,Option.some.injEq] at hr
 subst hr
 exact z1b (ziT hF hop hg hcv hfo hp hxs hok) hd hk
def z5d:Option (List Prop×Av)→Option (List Prop×Av)
 | some (ps,x)=>z6G ps fun ps=>z2v x fun x=>some (ps,x)
 | none=>none
theorem z5X {r:Option (List Prop×Av)} {ps:List Prop} {x:Av} (h:z5d r=some (ps,x)):r=some (ps,x):=by
 cases r with
 | none=>cases h
 | some r=>obtain⟨qs,y⟩:=r; simpa[z5d,z5n,z2A] using h
theorem z5o {fn:Func} {ps:List Prop} {r res:Av} {bor' news:List Blk} {nb:Nat} (ks:List Nat) (hr:z5d (z4t P σ fn.results.toList)=some (ps,r)) (hp:z03 ps) (hf:Fin σ r nb ks res bor' news)
  (hnb:E.nb=nb) (hlb:bor'.length=nb) (hlv:z03 ((z0b 0 bor').map fun p=>p.2≠ .gone)):
  N E (bodyPost P fn fun e w'=>∃ v β' F',e= .returned v∧AvR β' F' w' res v∧(∀ i b,bor'[i]? =some b→z0p β' F' w' i b)∧(∀ i b,news[i]? =some b→z0p β' F' w' (nb+i) b)∧Out E.w0 E.M E.F0 nb news.length E.β0 β' F' w') .ret σ:=
 zfd ks (z5X hr) hp hf hnb hlb hlv
theorem zpG {fn:Func} {ps:List Prop} {r res:Av} {bor' news:List Blk} {nb:Nat} (ks:List Nat) (hr:z5d (z4t P σ fn.results.toList)=some (ps,r)) (hp:z03 ps) (hf:Fin σ r nb ks res bor' news)
  (hnb:E.nb=nb) (hlb:bor'.length=nb) (hlv:z03 ((z0b 0 bor').map fun p=>p.2≠ .gone)):
  N E (bodyPost P fn fun e w'=>∃ v β' F',e= .returned v∧AvR β' F' w' res v∧(∀ i b,bor'[i]? =some b→z0p β' F' w' i b)∧(∀ i b,news[i]? =some b→z0p β' F' w' (nb+i) b)∧Out E.w0 E.M E.F0 nb news.length E.β0 β' F' w') .normal σ:=
 zru ks (z5X hr) hp hf hnb hlb hlv
end
end Go.Sx
namespace Go.Sx
open Go
set_option linter.unusedVariables false
set_option linter.unusedSimpArgs false
structure Like (ops:Array Oper) (o:Oper) (τ σ:St):Prop where
 hp:τ.hp=σ.hp
 ox:∀ x,x ∈ o.op.operands.toList→Sx.ox τ x=Sx.ox σ x
 gd:∀ i b,o.guard=some (i,b)→∀ d,(ops[i]?).bind (·.dst)=some d→τ.tm d=σ.tm d
def OpS (P:Program) (E:Env) (ops:Array Oper) (o:Oper) (σ:St) (x:Av):Prop:=∀ τ,Like ops o τ σ→OpQ P E ops o τ x
def z4V (P:Program) (E:Env) (ops:Array Oper) (o:Oper) (σ:St) (x:Av):Prop:=∀ τ,Like ops o τ σ→OpY P E o τ x
section
variable {P:Program} {E:Env} {ops:Array Oper} {Q:Exit→Act→World→Prop} {o:Oper} {σ τ:St} {x:Av}
theorem zdN (h:Like ops o τ σ) {i:Nat} {b:Bool} (hg:o.guard=some (i,b)):z0V ops τ i b=z0V ops σ i b:=by
 unfold z0V
 cases hd:(ops[i]?).bind (·.dst) with
 | none=>rfl
 | some d=>simp only[h.gd i b hg d hd]
theorem z1N (h:z4V P E ops o σ x) (hg:o.guard=none):OpS P E ops o σ x:=fun τ hl=>z0L (h τ hl) hg
theorem z3E {i:Nat} {b G:Bool} (hg:o.guard=some (i,b)) (hG:z0V ops σ i b=some G) (h:G=true→z4V P E ops o σ x):OpS P E ops o σ (.cnd G x):=
 fun τ hl=>z3X hg (by rw[zdN hl hg,hG]) fun hg=>h hg τ hl
theorem zdO (nw:Bool) (h:Like ops o τ σ):z1M nw P τ o=z1M nw P σ o:=by
 have hx:=h.ox
 have hhp:=h.hp
 obtain⟨tm1,hp1⟩:=τ
 obtain⟨tm2,hp2⟩:=σ
 simp only at hhp
 subst hhp
 unfold z1M
 cases ho:o.op with
 | move x=>rw[ho] at hx; simp only[hx x (by simp[Op.operands])]
 | assign x=>rw[ho] at hx; simp only[hx x (by simp[Op.operands])]
 | pick c a b=>rw[ho] at hx; simp only[hx c (by simp[Op.operands]),hx a (by simp[Op.operands]),hx b (by simp[Op.operands])]
 | binOp op t x y u=>rw[ho] at hx; simp only[hx x (by simp[Op.operands]),hx y (by simp[Op.operands])]
 | unOp op t x=>rw[ho] at hx; simp only[hx x (by simp[Op.operands])]
 | convert s d x=>rw[ho] at hx; simp only[hx x (by simp[Op.operands])]
 | load t x=>rw[ho] at hx; simp only[hx x (by simp[Op.operands])]; rfl
 | nilCheck x=>rw[ho] at hx; simp only[hx x (by simp[Op.operands])]
 | makeFunc f first cap=>
   rw[ho] at hx
   simp only
   rw[List.map_congr_left (fun x hx'=>hx x (by simp[Op.operands] at*; exact .inl hx')),List.map_congr_left (fun x hx'=>hx x (by simp[Op.operands] at*; exact .inr hx'))]
 | slice t x lo hi mx=>
   rw[ho] at hx
   have e:∀ y:Option Operand,(∀ z,y=some z→z ∈ (Op.slice t x lo hi mx).operands.toList)→y.map (ox ⟨tm1,hp1⟩)=y.map (ox ⟨tm2,hp1⟩):=by
    intro y hy
    cases y with
    | none=>rfl
    | some z=>simp only[Option.map_some,hx z (hy z rfl)]
   simp only[hx x (by simp[Op.operands]),e lo (by rintro z rfl; simp[Op.operands]),e hi (by rintro z rfl; simp[Op.operands]),e mx (by rintro z rfl; simp[Op.operands])]
   rfl
 | fieldAddr s x f=>rw[ho] at hx; simp only[hx x (by simp[Op.operands])]
 | field s x f=>rw[ho] at hx; simp only[hx x (by simp[Op.operands])]
 | indexAddr t x i=>rw[ho] at hx; simp only[hx x (by simp[Op.operands]),hx i (by simp[Op.operands])]; rfl
 | index t x i=>rw[ho] at hx; simp only[hx x (by simp[Op.operands]),hx i (by simp[Op.operands])]
 | extract x i=>rw[ho] at hx; simp only[hx x (by simp[Op.operands])]
 | build t parts=>
   rw[ho] at hx
   have e:(parts.toList.map fun(i,x)=>(i,ox ⟨tm1,hp1⟩ x))=(parts.toList.map fun(i,x)=>(i,ox ⟨tm2,hp1⟩ x)):=List.map_congr_left (fun p hp'=>by
    have:=hx p.2 (by simp only[Op.operands]; exact List.mem_map.2 ⟨p,hp',rfl⟩)
    show(p.1,ox ⟨tm1,hp1⟩ p.2)=(p.1,ox ⟨tm2,hp1⟩ p.2)
    rw[this])
   simp only[e]
 | call c=>
   rw[ho] at hx
   have hx':∀ y,y ∈ c.args.toList→ox ⟨tm1,hp1⟩ y=ox ⟨tm2,hp1⟩ y:=fun y hy=>hx y (by simp only[Op.operands,Call.operands]; simp at hy ⊢; first | exact .inr hy | exact .inl hy | simp[hy])
   simp only
   generalize c.args.toList=l at hx' ⊢
   generalize c.argTypes.toList=ts
   clear hx ho h
   generalize c.callee=cc
   split<;>first | rfl |(simp_all; done)
 | _=>rfl
theorem zb8 (nw:Bool) {d:Option Nat} {ps:List Prop} (h:z4D o.dst (z1M nw P σ o)=some (d,ps,x)) (hp:z03 ps):z4V P E ops o σ x:=
 fun τ hl=>ziW nw (by rw[zdO nw hl]; exact h) hp
theorem zcE (nw:Bool) {d:Option Nat} {ps:List Prop} (hg:o.guard=none) (h:z4D o.dst (z1M nw P σ o)=some (d,ps,x)) (hp:z03 ps):OpS P E ops o σ x:=z1N (zb8 nw h hp) hg
theorem zb9 (nw:Bool) {i:Nat} {b G:Bool} {d:Option Nat} {ps:List Prop} (hg:o.guard=some (i,b)) (hG:z0V ops σ i b=some G) (h:z4D o.dst (z1M nw P σ o)=some (d,ps,x)) (hp:G=true→z03 ps):OpS P E ops o σ (.cnd G x):=
 z3E hg hG fun hg=>zb8 nw h (hp hg)
theorem z4g (h:∀ x,x ∈ o.op.operands.toList→ox τ x=ox σ x):∀ l:List Operand,(∀ x,x ∈ l→x ∈ o.op.operands.toList)→oxs τ l=oxs σ l
 | [],_=>rfl
 | x::l,hl=>by simp only[oxs,h x (hl x (List.mem_cons_self ..)),z4g h l fun y hy=>hl y (List.mem_cons_of_mem _ hy)]
theorem z6i {c:Call} {fo:Operand} {f:FuncId} {first cap:List Cell} {pf:List Prop} {xs:List Av} {res r:Av} (hF:Ct P f xs [] res [] [])
  (hop:o.op= .call c) (hcv:c.callee= .value fo) (hfo:ox σ fo=(pf,.c (.fn (.func f) first cap)))
  (hp:z03 (pf++(oxs σ c.args.toList).1)) (hxs:first.map Av.c++(oxs σ c.args.toList).2++cap.map Av.c=xs) (hok:(xs.all (Av.ok 0)&&res.ok 0)=true) (hr:z2v res some=some r):z4V P E ops o σ r:=by
 intro τ hl
 simp only[z2A,Option.some.injEq] at hr
 subst hr
 have hx:=hl.ox
 have e1:ox τ fo=ox σ fo:=hx fo (by rw[hop]; simp[Op.operands,Call.operands,hcv])
 have e2:oxs τ c.args.toList=oxs σ c.args.toList:=z4g hx _ fun y hy=>by
  rw[hop]; simp only[Op.operands,Call.operands]; simp at hy ⊢; first | exact .inr hy | exact .inl hy | simp[hy]
 exact ziV hF hop hcv (by rw[e1]; exact hfo) (by rw[e2]; exact hp) (by rw[e2]; exact hxs) hok
theorem z7a {s d e:TypeId} {y:Operand} {ps:List Prop} {l:List Int} (hop:o.op= .convert s d y) (hs:P.underlying s=some (.slice e)) (he:P.underlying e=some (.int .u8)) (hd:P.underlying d=some .string)
  (hx:z1B σ (ox σ y)=some (ps,.ints .u8 l)) (hp:z03 ps):z4V P E ops o σ (lv (.string (strOfNums l))):=by
 intro τ hl
 have e1:ox τ y=ox σ y:=hl.ox y (by rw[hop]; simp[Op.operands])
 have e2:∀ z,z1B τ z=z1B σ z:=by
  intro z
  have:=hl.hp
  obtain⟨tm1,hp1⟩:=τ
  obtain⟨tm2,hp2⟩:=σ
  simp only at this
  subst this
  rfl
 exact zkT hop hs he hd (by rw[e1,e2]; exact hx) hp
theorem zfG {s d e:TypeId} {y:Operand} {ps:List Prop} {t:ByteArray} (hop:o.op= .convert s d y) (hs:P.underlying s=some .string) (hd:P.underlying d=some (.slice e)) (he:P.underlying e=some (.int .u8))
  (hx:ox σ y=(ps,lv (.string t))) (hp:z03 ps) (hsz:t.size≤maxLen):z4V P E ops o σ (.c (.lf (.ints .u8 (bs t)))):=by
 intro τ hl
 have e1:ox τ y=ox σ y:=hl.ox y (by rw[hop]; simp[Op.operands])
 exact zgY hop hs hd he (by rw[e1]; exact hx) hp hsz
def z2O (P:Program) (E:Env) (ops:Array Oper):List Oper→St→(St→Prop)→Prop
 | [],σ,K=>K σ
 | o::l,σ,K=>∃ d x,d=o.dst∧OpS P E ops o σ x∧z2O P E ops l (σ.put d x) K
theorem z1i {K:St→Prop} (h:K σ):z2O P E ops [] σ K:=h
theorem z2y {l:List Oper} {K:St→Prop} {d:Option Nat} (hd:z0j o.dst some=some d) (h:OpS P E ops o σ x) (hk:z2O P E ops l (σ.put d x) K):z2O P E ops (o::l) σ K:=by
 simp only[z0t,Option.some.injEq] at hd
 exact⟨d,x,hd.symm,h,hk⟩
def pre (σ:St):List Oper→List Av→St
 | o::l,x::xs=>pre (σ.put o.dst x) l xs
 | _,_=>σ
theorem zba:∀(l:List Oper) (σ:St) (K:St→Prop),z2O P E ops l σ K→∃ xs:List Av,xs.length=l.length∧(∀ i o x,l[i]? =some o→xs[i]? =some x→OpS P E ops o (pre σ (l.take i) (xs.take i)) x)∧K (pre σ l xs)
 | [],σ,K,h=>⟨[],rfl,fun i o x h=>by simp at h,h⟩
 | o::l,σ,K,⟨d,x,hd,h1,h2⟩=>by
   subst hd
   obtain⟨xs,k1,k2,k3⟩:=zba l _ K h2
   refine⟨x::xs,by simp[k1],fun i o' x' ho hx=>?_,k3⟩
   match i,ho,hx with
   | 0,ho,hx=>simp at ho hx; subst ho; subst hx; exact h1
   | i+1,ho,hx=>simpa[pre] using k2 i o' x' (by simpa using ho) (by simpa using hx)
def z2Z:List Oper→Bool
 | []=>true
 | o::l=>(match o.dst with | some d=>(match fnd l d 0 with | some _=>false | none=>true) | none=>true)&&z2Z l
theorem z3i:∀(l:List Oper) (s k:Nat),fnd l s k=(fnd l s 0).map (· +k)
 | [],s,k=>rfl
 | o::l,s,k=>by
   simp only[fnd]
   cases o.dst with
   | none=>simp only; rw[z3i l s (k+1),z3i l s (0+1)]; cases fnd l s 0<;>simp; omega
   | some d=>
     cases hb:Nat.beq d s with
     | true=>simp only[hb,Option.map_some,Nat.zero_add]
     | false=>simp only[hb]; rw[z3i l s (k+1),z3i l s (0+1)]; cases fnd l s 0<;>simp; omega
theorem zcF:∀(l:List Oper) (xs:List Av) (σ:St),(pre σ l xs).hp=σ.hp
 | [],xs,σ=>rfl
 | o::l,[],σ=>rfl
 | o::l,x::xs,σ=>by
   simp only[pre]
   rw[zcF l xs]
   cases o.dst<;>rfl
theorem z9W:∀(l:List Oper) (xs:List Av) (σ:St) (s:Nat),z2Z l=true→xs.length=l.length→(pre σ l xs).tm s=match fnd l s 0 with | some i=>xs.getD i (.c .un) | none=>σ.tm s
 | [],xs,σ,s,_,_=>rfl
 | o::l,[],σ,s,_,hl=>by simp at hl
 | o::l,x::xs,σ,s,hf,hl=>by
   simp only[z2Z,Bool.and_eq_true] at hf
   simp only[List.length_cons,Nat.add_right_cancel_iff] at hl
   have ih:=z9W l xs (σ.put o.dst x) s hf.2 hl
   simp only[pre]
   rw[ih]
   simp only[fnd]
   rw[z3i l s (0+1)]
   cases hd:o.dst with
   | none=>
     simp only
     cases fnd l s 0<;>simp[St.put]
   | some d=>
     rw[hd] at hf
     cases hb:Nat.beq d s with
     | true=>
       have:d=s:=Nat.eq_of_beq_eq_true hb
       subst this
       have hn:fnd l d 0=none:=by
        have:=hf.1
        dsimp only at this
        cases h:fnd l d 0 with
        | none=>rfl
        | some i=>rw[h] at this; cases this
       rw[hn]
       simp[St.put,St.set]
     | false=>
       have hne:¬ s=d:=by rintro rfl; rw[Nat.beq_refl] at hb; cases hb
       simp only[hb]
       cases fnd l s 0<;>simp[St.put,St.set,hne]
def zh0 (ops:Array Oper) (l:List Oper) (o:Oper):Bool:=
 let seen:=fun t=>match fnd l t 0 with | some j=>z0c j (z46 o) | none=>true
 (o.op.operands.toList.all fun | .tmp t=>seen t | _=>true)&&
 (match o.guard with
  | some (i,_)=>(match (ops[i]?).bind (·.dst) with | some d=>seen d | none=>true)
  | none=>true)
def zkd (ops:Array Oper) (l:List Oper) (n:Nat):Bool:=
 z2Z l&&l.all (zh0 ops l)&&l.zipIdx.all (fun p=>(z46 p.1).all fun j=>Nat.blt j p.2)
theorem z2V {id:Nat} {l:List Oper} (n:Nat) (hm:P.follows .mixedOrders=true) (hB:z9U l.toArray (l.take n) n=true) (hC:zkd l.toArray (l.take n) n=true) (hE:(l.take n).all (fun o=>z0e E.n o.dst)=true) {lh lt:List Oper} (hlh:l.take n=lh) (hlt:l.drop n=lt)
  (h:z2O P E l.toArray lh σ (fun τ=>WL P E l.toArray Q lt τ)):W P E (.region id l.toArray true) Q σ:=by
 subst hlh
 subst hlt
 obtain⟨xs,h1,h2,h3⟩:=zba _ _ _ h
 simp only[zkd,Bool.and_eq_true,List.all_eq_true] at hC
 obtain⟨⟨c1,c2⟩,c3⟩:=hC
 refine zpE n hm hB hE ⟨xs,h1,fun i o ho=>?_,fun a w hS=>h3 a w ?_⟩
 ·have hlt:i<(l.take n).length:=(List.getElem?_eq_some_iff.1 ho).1
  have hx:xs[i]? =some xs[i]:=by simp[h1]
  have hxi:(([]:List Av)++xs).getD (0+i) (.c .un)=xs[i]:=by simp[List.getD_eq_getElem?_getD,hx]
  rw[hxi]
  refine h2 i o _ ho hx _ ⟨?_,?_,?_⟩
  ·rw[zcF]; rfl
  all_goals
   have hlk:=c2 o (List.mem_of_getElem? ho)
   simp only[zh0,Bool.and_eq_true,List.all_eq_true] at hlk
   have hdep:∀ j,z0c j (z46 o)=true→j<i:=by
    intro j hj
    have hmem:∀(x:Nat) (l:List Nat),z0c x l=true→x ∈ l:=by
     intro x l
     induction l with
     | nil=>intro h; cases h
     | cons y l ih=>
       intro h
       simp only[z0c] at h
       split at h
       ·rename_i e; rw[Nat.eq_of_beq_eq_true e]; exact List.mem_cons_self ..
       ·exact List.mem_cons_of_mem _ (ih h)
    have:=c3 (o,i) (by rw[List.mem_zipIdx_iff_getElem?]; exact ho)
    exact z1H (this j (hmem _ _ hj))
   have hfr:∀(l:List Oper) (m:Nat),z2Z l=true→z2Z (l.take m)=true:=by
    intro l
    induction l with
    | nil=>intro m _; simp[z2Z]
    | cons o l ih=>
      intro m hm
      cases m with
      | zero=>rfl
      | succ m=>
        simp only[List.take_succ_cons,z2Z,Bool.and_eq_true] at hm ⊢
        refine⟨?_,ih m hm.2⟩
        cases hd:o.dst with
        | none=>rfl
        | some d=>
          rw[hd] at hm
          have:=hm.1
          dsimp only at this ⊢
          have hnn:fnd l d 0=none:=by
           cases h:fnd l d 0 with
           | none=>rfl
           | some i=>rw[h] at this; cases this
          have:fnd (l.take m) d 0=none:=by
           have key:∀(l:List Oper) (m k:Nat),fnd l d k=none→fnd (l.take m) d k=none:=by
            intro l
            induction l with
            | nil=>intro m k _; simp[fnd]
            | cons o l ih=>
              intro m k h
              cases m with
              | zero=>rfl
              | succ m=>
                simp only[List.take_succ_cons,fnd] at h ⊢
                cases ho:o.dst with
                | none=>rw[ho] at h; exact ih m _ h
                | some e=>
                  rw[ho] at h
                  dsimp only at h ⊢
                  cases hb:Nat.beq e d with
                  | true=>rw[hb] at h; cases h
                  | false=>rw[hb] at h; exact ih m _ h
           exact key l m 0 hnn
          rw[this]
   have hfnd:∀(l:List Oper) (m t j:Nat),fnd l t 0=some j→j<m→fnd (l.take m) t 0=some j:=by
    intro l
    induction l with
    | nil=>intro m t j h; cases h
    | cons o l ih=>
      intro m t j h hj
      cases m with
      | zero=>omega
      | succ m=>
        simp only[List.take_succ_cons,fnd] at h ⊢
        have nx:fnd l t (0+1)=some j→fnd (l.take m) t (0+1)=some j:=by
         intro h
         rw[z3i] at h ⊢
         obtain⟨j',h1,h2⟩:=Option.map_eq_some_iff.1 h
         rw[ih m t j' h1 (by omega)]
         simpa using h2
        cases ho:o.dst with
        | none=>rw[ho] at h; exact nx h
        | some e=>
          rw[ho] at h
          dsimp only at h ⊢
          cases hb:Nat.beq e t with
          | true=>rw[hb] at h; exact h
          | false=>rw[hb] at h; exact nx h
   have hfnn:∀(l:List Oper) (m t k:Nat),fnd l t k=none→fnd (l.take m) t k=none:=by
    intro l
    induction l with
    | nil=>intro m t k _; simp[fnd]
    | cons o l ih=>
      intro m t k h
      cases m with
      | zero=>rfl
      | succ m=>
        simp only[List.take_succ_cons,fnd] at h ⊢
        cases ho:o.dst with
        | none=>rw[ho] at h; exact ih m _ _ h
        | some e=>
          rw[ho] at h
          dsimp only at h ⊢
          cases hb:Nat.beq e t with
          | true=>rw[hb] at h; cases h
          | false=>rw[hb] at h; exact ih m _ _ h
   have hpt:∀ t,(match fnd (l.take n) t 0 with | some j=>z0c j (z46 o) | none=>true)=true→
     (stD σ (l.take n) (fun j=>(([]:List Av)++xs).getD j (.c .un)) (fun j=>z0c j (z46 o))).tm t=(pre σ ((l.take n).take i) (xs.take i)).tm t:=by
    intro t ht
    rw[z9W _ _ _ _ (hfr _ i c1) (by simp only[List.length_take,h1])]
    simp only[stD]
    cases hf:fnd (l.take n) t 0 with
    | none=>rw[hfnn _ i _ _ hf]
    | some j=>
      rw[hf] at ht
      dsimp only at ht ⊢
      rw[hfnd _ i _ _ hf (hdep j ht),ht]
      have hji:=hdep j ht
      simp[List.getD_eq_getElem?_getD,List.getElem?_take,hji]
  ·intro x hx'
   cases x with
   | tmp t=>
     have:=hlk.1 (.tmp t) hx'
     show str _=str _
     simp only[ev]
     rw[hpt t this]
   | const v=>rfl
   | global g=>rfl
   | func f=>rfl
  ·intro i' b hg d hd
   have:=hlk.2
   rw[hg] at this
   dsimp only at this
   rw[hd] at this
   exact hpt d this
 ·obtain⟨β,F,hS⟩:=hS
  refine⟨β,F,hS.weaken (fun s=> .inl ?_) (by rw[zcF]; rfl)⟩
  rw[z9W _ _ _ _ c1 h1]
  simp only[stD]
  all_goals (cases fnd (l.take n) s 0<;>simp)
end
end Go.Sx
namespace Go.Sx
open Go
set_option linter.unusedVariables false
def z6H (c c':Cell):Prop:=c'=c∨(c= .lf (.v (.slice none 0 0))∧((∃ k,c'= .lf (.ints k []))∨∃ s,c'= .lf (.recs s [])))
def z4W:List Cell→List Cell→Prop
 | [],[]=>True
 | c::l,c'::l'=>z6H c c'∧z4W l l'
 | _,_=>False
def z3q:Av→Av→Prop
 | .c c,.c c'=>z6H c c'
 | .agg l,.agg l'=>z4W l l'
 | x,x'=>x'=x
def z8B:List Av→List Av→Prop
 | [],[]=>True
 | c::l,c'::l'=>z3q c c'∧z8B l l'
 | _,_=>False
def z80:Av→Av→Prop
 | .tup l,.tup l'=>z8B l l'
 | x,x'=>z3q x x'
section
variable {β:Nat→Option Nat} {F:Nat→Prop} {w:World}
theorem z6H.sound {c c':Cell} {v:Value} (h:z6H c c') (hv:CellR β F w c v):CellR β F w c' v:=by
 rcases h with rfl |⟨rfl,⟨k,rfl⟩ |⟨s,rfl⟩⟩
 ·exact hv
 ·cases hv with | lf hv=>cases hv with | v=>
  exact .lf (.ints _ _ _ _ _ rfl (Nat.le_refl _) (by simp[maxLen]) (fun h=>absurd rfl h))
 ·cases hv with | lf hv=>cases hv with | v=>
  exact .lf (.recs _ _ _ _ _ (fun _ _=>undef) rfl (Nat.le_refl _) (by simp[maxLen]) (fun r hr=>by cases hr) (fun h=>absurd rfl h) (fun i r j x hi=>by simp at hi))
theorem z4W.get:∀ {l l':List Cell},z4W l l'→l.length=l'.length∧∀(i:Nat) (c':Cell),l'[i]? =some c'→∃ c,l[i]? =some c∧z6H c c'
 | [],[],_=>⟨rfl,fun i c' h=>by simp at h⟩
 | c::l,c'::l',h=>by
   obtain⟨h1,h2⟩:=z4W.get h.2
   refine⟨by simp[h1],fun i x hx=>?_⟩
   match i,hx with
   | 0,hx=>simp at hx; subst hx; exact⟨c,rfl,h.1⟩
   | i+1,hx=>exact h2 i x (by simpa using hx)
 | [],_::_,h=>h.elim
 | _::_,[],h=>h.elim
theorem z3q.sound {x x':Av} {v:Value} (h:z3q x x') (hv:AvR β F w x v):AvR β F w x' v:=by
 unfold z3q at h
 split at h
 ·cases hv with
  | c hv=>exact .c (h.sound hv)
  | any=>
    rcases h with h |⟨h,_⟩
    ·rw[h]; exact .any _
    ·cases h
 ·obtain⟨h1,h2⟩:=h.get
  cases hv with | agg _ cs h3 h4=>
  refine .agg _ _ (by rw[h3,h1]) fun i x v hx hv=>?_
  obtain⟨c,hc,hf⟩:=h2 i x hx
  exact hf.sound (h4 i c v hc hv)
 ·subst h; exact hv
theorem z8B.get:∀ {l l':List Av},z8B l l'→l.length=l'.length∧∀(i:Nat) (c':Av),l'[i]? =some c'→∃ c,l[i]? =some c∧z3q c c'
 | [],[],_=>⟨rfl,fun i c' h=>by simp at h⟩
 | c::l,c'::l',h=>by
   obtain⟨h1,h2⟩:=z8B.get h.2
   refine⟨by simp[h1],fun i x hx=>?_⟩
   match i,hx with
   | 0,hx=>simp at hx; subst hx; exact⟨c,rfl,h.1⟩
   | i+1,hx=>exact h2 i x (by simpa using hx)
 | [],_::_,h=>h.elim
 | _::_,[],h=>h.elim
theorem z80.sound {x x':Av} {v:Value} (h:z80 x x') (hv:AvR β F w x v):AvR β F w x' v:=by
 unfold z80 at h
 split at h
 ·obtain⟨h1,h2⟩:=h.get
  cases hv with | tup _ cs h3 h4=>
  refine .tup _ _ (by rw[h3,h1]) fun i x v hx hv=>?_
  obtain⟨c,hc,hf⟩:=h2 i x hx
  exact hf.sound (h4 i c v hc hv)
 ·exact h.sound hv
end
section
variable {P:Program} {E:Env} {ops:Array Oper} {Q:Exit→Act→World→Prop} {rest:List Oper} {o:Oper} {σ:St}
theorem zcG {fn:Func} {ps:List Prop} {r r' res:Av} {bor' news:List Blk} {nb:Nat} (ks:List Nat) (hr:z5d (z4t P σ fn.results.toList)=some (ps,r)) (hp:z03 ps) (hu:z80 r r') (hf:Fin σ r' nb ks res bor' news)
  (hnb:E.nb=nb) (hlb:bor'.length=nb) (hlv:z03 ((z0b 0 bor').map fun p=>p.2≠ .gone)):
  N E (bodyPost P fn fun e w'=>∃ v β' F',e= .returned v∧AvR β' F' w' res v∧(∀ i b,bor'[i]? =some b→z0p β' F' w' i b)∧(∀ i b,news[i]? =some b→z0p β' F' w' (nb+i) b)∧Out E.w0 E.M E.F0 nb news.length E.β0 β' F' w') .ret σ:=by
 intro a w hS
 obtain⟨β,F,hS⟩:=hS
 obtain⟨v,h1,h2⟩:=z4u hS (z5X hr) hp
 obtain⟨β',F',g1,g2,g3,g4⟩:=z6V hS (hu.sound h2) hnb hlb hf hlv
 exact⟨hS.df,v,h1,v,β',F',rfl,g1,g2,g3,g4⟩
theorem SR.up {a:Act} {w:World} (h:SR E σ a w) (i:Nat) {x:Av} (hu:z80 (σ.tm i) x):SR E (σ.set i x) a w:=by
 obtain⟨β,F,h⟩:=h
 refine⟨β,F,fun k=>?_,h.sz,h.df,h.hp,h.inj,h.own,h.lt,h.fr,h.keep,h.bb,h.nbl⟩
 by_cases hk:k=i
 ·subst hk; simpa[St.set] using hu.sound (h.tm k)
 ·simpa[St.set,hk] using h.tm k
theorem W_up {c:Code} (i:Nat) {x:Av} (hu:z80 (σ.tm i) x) (h:W P E c Q (σ.set i x)):W P E c Q σ:=fun a w hS=>h a w (hS.up i hu)
theorem z81 {c:Code} (τ:St) (h:W P E c (Exit.then (SR E τ) Q) σ) (hk:N E Q .normal τ):W P E c Q σ:=
 fun a w hS=>wp_mono (h a w hS) (fun e a w q=>by cases e<;>first | exact q | exact hk a w q)
theorem z47 {τ:St} (h:σ.le τ):N E (Exit.then (SR E τ) Q) .normal σ:=fun a w hS=>hS.weaken h
end
end Go.Sx
namespace Go.Sx
open Go
set_option linter.unusedVariables false
set_option linter.unusedSimpArgs false
def wts (ops:Array Oper):Nat→Nat→Nat→Bool
 | 0,_,_=>false
 | f+1,s,i=>match ops[s]? with
   | some o=>(o.after.toList.any fun e=>Region.binds .any e&&Nat.beq e.on i)||(o.after.toList.any fun e=>Region.binds .any e&&wts ops f e.on i)
   | none=>false
theorem z7b {ops:Array Oper} {n:Nat} {listed:Array Bool} (h:HeadInv .any ops n listed):∀(f s i:Nat),wts ops f s i=true→listed.getD s false=true→listed.getD i false=true
 | 0,s,i,hw,_=>by cases hw
 | f+1,s,i,hw,hs=>by
   simp only[wts] at hw
   split at hw
   ·rename_i o ho
    simp only[Bool.or_eq_true,List.any_eq_true,Bool.and_eq_true] at hw
    rcases hw with ⟨e,he,hb,hi⟩ |⟨e,he,hb,hi⟩
    ·have:=h.closed s o ho hs e (by simpa using he) hb
     rwa[Nat.eq_of_beq_eq_true hi] at this
    ·exact z7b h f e.on i hi (h.closed s o ho hs e (by simpa using he) hb)
   ·cases hw
theorem zh1 {ops:Array Oper} {n:Nat} {listed:Array Bool} (h:HeadInv .any ops n listed) {s i f:Nat} (hr:s ∈ Region.ready .any ops listed) (hw:wts ops f s i=true):listed.getD i false=true:=by
 obtain⟨_,o,ho,hall⟩:=mem_ready.1 hr
 cases f with
 | zero=>cases hw
 | succ f=>
   simp only[wts,ho,Bool.or_eq_true,List.any_eq_true,Bool.and_eq_true] at hw
   rcases hw with ⟨e,he,hb,hi⟩ |⟨e,he,hb,hi⟩
   ·have:=hall e (by simpa using he) hb
    rwa[Nat.eq_of_beq_eq_true hi] at this
   ·exact z7b h f e.on i hi (hall e (by simpa using he) hb)
section
variable {P:Program} {E:Env} {ops:Array Oper} {Q:Exit→Act→World→Prop} {σ:St}
theorem zcH:∀(x:Nat) (l:List Nat),z0c x l=true→x ∈ l:=by
 intro x l
 induction l with
 | nil=>intro h; cases h
 | cons y l ih=>
   intro h
   simp only[z0c] at h
   split at h
   ·rename_i e; rw[Nat.eq_of_beq_eq_true e]; exact List.mem_cons_self ..
   ·exact List.mem_cons_of_mem _ (ih h)
theorem z7B:∀(l:List Oper) (m t k:Nat),fnd l t k=none→fnd (l.take m) t k=none:=by
 intro l
 induction l with
 | nil=>intro m t k _; simp[fnd]
 | cons o l ih=>
   intro m t k h
   cases m with
   | zero=>rfl
   | succ m=>
     simp only[List.take_succ_cons,fnd] at h ⊢
     cases ho:o.dst with
     | none=>rw[ho] at h; exact ih m _ _ h
     | some e=>
       rw[ho] at h
       dsimp only at h ⊢
       cases hb:Nat.beq e t with
       | true=>rw[hb] at h; cases h
       | false=>rw[hb] at h; exact ih m _ _ h
theorem zfH:∀(l:List Oper) (m:Nat),z2Z l=true→z2Z (l.take m)=true:=by
 intro l
 induction l with
 | nil=>intro m _; simp[z2Z]
 | cons o l ih=>
   intro m hm
   cases m with
   | zero=>rfl
   | succ m=>
     simp only[List.take_succ_cons,z2Z,Bool.and_eq_true] at hm ⊢
     refine⟨?_,ih m hm.2⟩
     cases hd:o.dst with
     | none=>rfl
     | some d=>
       rw[hd] at hm
       have:=hm.1
       dsimp only at this ⊢
       have hnn:fnd l d 0=none:=by
        cases h:fnd l d 0 with
        | none=>rfl
        | some i=>rw[h] at this; cases this
       rw[z7B l m d 0 hnn]
theorem zbL:∀(l:List Oper) (m t j:Nat),fnd l t 0=some j→j<m→fnd (l.take m) t 0=some j:=by
 intro l
 induction l with
 | nil=>intro m t j h; cases h
 | cons o l ih=>
   intro m t j h hj
   cases m with
   | zero=>omega
   | succ m=>
     simp only[List.take_succ_cons,fnd] at h ⊢
     have nx:fnd l t (0+1)=some j→fnd (l.take m) t (0+1)=some j:=by
      intro h
      rw[z3i] at h ⊢
      obtain⟨j',h1,h2⟩:=Option.map_eq_some_iff.1 h
      rw[ih m t j' h1 (by omega)]
      simpa using h2
     cases ho:o.dst with
     | none=>rw[ho] at h; exact nx h
     | some e=>
       rw[ho] at h
       dsimp only at h ⊢
       cases hb:Nat.beq e t with
       | true=>rw[hb] at h; exact h
       | false=>rw[hb] at h; exact nx h
end
end Go.Sx
namespace Go.Sx
open Go
set_option linter.unusedVariables false
set_option linter.unusedSimpArgs false
theorem zcI {P:Program} (w:World) (dT sT ty elem:TypeId) (g o dLen dCap:Nat) (a:Addr) (sLen sCap:Nat) (cs:List Value) (cur:Array Value)
  (hu:P.underlying dT=some (.slice elem)) (hs:(P.info? elem).map (·.size)=some 1) (hn:cs.length=Nat.min sLen dLen)
  (hsrc:∀ j v,cs[j]? =some v→w.cell? (a.add j)=some v) (hrow:Row w g cur) (hfit:o+cs.length≤cur.size) (h1:∀ v ∈ cs,v.oneCell'=true):
  ∃ w',(Builtin.copy_ #[dT,sT] ty #[.slice (some ⟨g,o,none⟩) dLen dCap,.slice (some a) sLen sCap]).run P w= .ok (goInt cs.length) w'∧Wr w w' g (lay cur o cs):=by
 have hl:=run_loadCells_list (P:=P) w a cs hsrc
 obtain⟨w',r1,r2⟩:=z1q (P:=P) (g:=g) (off:=o) cs 0 w cur h1 hrow (by simpa using hfit)
 refine⟨w',?_,by simpa using r2⟩
 cases hq:P.info? elem with
 | none=>simp[hq] at hs
 | some i=>
   have hi:i.size=1:=by simpa[hq] using hs
   simp[Builtin.copy_,run_underlying hu,Builtin.lenOf,Builtin.firstCells,sizeOf,typeInfo,hq,hi,←hn,hl,r1]
section
variable {P:Program} {E:Env} {ops:Array Oper} {Q:Exit→Act→World→Prop} {o:Oper} {σ:St} {rest:List Oper}
theorem z7C {x y:Operand} {t t':TypeId} {c:Call} {a:Act} {w:World} {v:Value} {w':World} (hop:o.op= .call c) (hc:c.callee= .builtin .copy) (ha:c.args= #[x,y]) (ht:c.argTypes= #[t,t'])
  (h:(Builtin.copy_ #[t,t'] o.type #[a.eval x,a.eval y]).run P w= .ok v w'):(execOp a.eval o).run P w= .ok (.value v) w':=by
 simp only[execOp,hop,resolve,hc,ha,ht,Sem.run_bind,Sem.run_pure,Result.andThen_ok,invoke,builtin]
 simp only[List.map_toArray,List.map_cons,List.map_nil,h,Result.andThen_ok]
theorem zed {t e:TypeId} {by_:Nat} {dd:Option Nat} {c:Call} {x y:Operand} {px qs:List Prop} {j off n:Nat} {k:IntKind} {l l2:List Int} (hop:o.op= .call c) (hc:c.callee= .builtin .copy) (ha:c.args.toList= [x,y]) (hty:c.argTypes.toList= [t,t]) (hg:o.guard=none)
  (hdf:z0j o.dst some=some dd) (hd:z0e E.n dd=true)
  (hE:Elt P t e 1 by_) (hx:ox σ x=(px,.c (.own j 1 off n))) (hb:σ.hp j= .row (.ints k l)) (hy:z1B σ (ox σ y)=some (qs,.ints k l2)) (hp:z03 (px++qs)) (hn:off+n≤l.length)
  (hk:WL P E ops Q rest ((σ.seth j (.row (.ints k (l.take off++l2.take n++l.drop (off+(l2.take n).length))))).put dd (lv (.int .i64 (l2.take n).length)))):WL P E ops Q (o::rest) σ:=by
 simp only[z0t,Option.some.injEq] at hdf
 subst hdf
 refine z4l hg _ (fun a w hS=>?_) hk
 obtain⟨β,F,hS⟩:=hS
 have hv1:=oxR hS x
 rw[hx] at hv1
 have hv1:=hv1 hp.left
 obtain⟨ad,m,cs,news,hv2,hm,hmc,hr2,hcell⟩:=z3p hS hy hp.right (oxR hS y)
 have hca:c.args= #[x,y]:=by apply Array.toList_inj.1; simpa using ha
 have hct:c.argTypes= #[t,t]:=by apply Array.toList_inj.1; simpa using hty
 generalize he1:a.eval x=v1 at hv1
 dsimp only at hv1
 cases hv1 with | c hv1=>cases hv1 with | own _ _ _ _ ao cap hlc hmx hh=>
 obtain⟨ht,i,z,hi,hz,hsz,hby,hzs⟩:=hE
 have hinfo:(P.info? e).map (·.size)=some 1:=by rw[hi]; simp[hsz]
 have hgone:σ.hp j≠ .gone:=by rw[hb]; intro h; cases h
 have hnews:news=l2.map (Value.int k):=hr2
 have hml:m=l2.length:=hm
 have hfinal:∀ w' σ',SRb E β F σ' a w'→SR E (σ'.put o.dst (lv (.int .i64 (l2.take n).length))) (a.put o.dst (goInt (l2.take n).length)) w':=fun w' σ' h=>⟨β,F,h.put (.c (.lf (.v _ rfl))) (z0x hd)⟩
 by_cases h0:(l2.take n).length=0
 ·have hmin:Nat.min m n=0:=by
   rw[List.length_take] at h0
   show min m n=0
   omega
  have eσ:σ.seth j (.row (.ints k (l.take off++l2.take n++l.drop (off+(l2.take n).length))))=σ:=by
   have h1:l2.take n= []:=List.eq_nil_of_length_eq_zero h0
   rw[h1]
   simp only[List.append_nil,List.length_nil,Nat.add_zero,List.take_append_drop]
   unfold St.seth
   obtain⟨tm,hp'⟩:=σ
   simp only[St.mk.injEq,true_and]
   funext i
   by_cases hij:i=j
   ·subst hij; simpa using hb.symm
   ·simp[hij]
  rw[eσ]
  refine⟨goInt 0,w,z7C hop hc hca hct (by rw[he1,hv2]; exact run_copy_none w t t o.type e ao ad n cap m cs ht hinfo hmin),?_⟩
  have:=hfinal w σ hS
  rw[h0] at this ⊢
  exact this
 ·have hB:=hS.hp j
  rw[hb] at hB
  have hnl:0<n:=by
   rcases Nat.eq_zero_or_pos n with h | h
   ·subst h; simp at h0
   ·exact h
  rcases hh with hc0 |⟨g,hgj,rfl,hcap⟩
  ·omega
  ·rcases hB with ⟨hl0,_⟩ |⟨g',cur,hg',hrow,hcc⟩
   ·subst hl0; simp at hn; omega
   ·rw[hgj] at hg'
    obtain rfl:=Option.some.inj hg'
    have hlc2:l.length≤cur.size:=by
     rcases Nat.eq_zero_or_pos l.length with h | h
     ·omega
     ·have:=hcc (l.length -1) l[l.length -1] (by simp[show l.length -1<l.length by omega])
      have:=(Array.getElem?_eq_some_iff.1 this).1
      omega
    obtain⟨b,o',had,hcl⟩:=hcell (by rw[hnews]; intro h; apply h0; simp at h; rw[h]; simp)
    subst had
    have hvs:((l2.take n).map (Value.int k)).length=Nat.min m n:=by
     rw[List.length_map,List.length_take,hml]
     show min n l2.length=min l2.length n
     omega
    have hfit:off+((l2.take n).map (Value.int k)).length≤cur.size:=by
     rw[List.length_map,List.length_take]; omega
    obtain⟨w',r1,r2⟩:=zcI (P:=P) w t t o.type e g off n cap ⟨b,o',none⟩ m cs ((l2.take n).map (Value.int k)) cur ht hinfo hvs (fun q v hq=>by
     have hq':news[q]? =some v:=by
      rw[hnews]
      rw[List.getElem?_map,List.getElem?_take] at hq
      split at hq
      ·rw[List.getElem?_map]; exact hq
      ·cases hq
     have:=hcl q v hq'
     rw[show(⟨b,o',none⟩:Addr).add q=⟨b,o'+q,none⟩ by unfold Addr.add; split<;>simp_all]
     exact this) hrow hfit (fun v hv=>by obtain⟨z,_,rfl⟩:=List.mem_map.1 hv; rfl)
    have hfin:=hS.written hgone hgj hrow r2 (z3K hfit) (blk:= .row (.ints k (l.take off++l2.take n++l.drop (off+(l2.take n).length)))) (.inr ⟨g,_,hgj,r2.row,fun i z hz=>?_⟩)
    ·refine⟨_,w',z7C hop hc hca hct (by rw[he1,hv2]; exact r1),?_⟩
     rw[List.length_map]
     exact hfinal w' _ hfin.1
    ·rw[z3B hfit,List.length_map]
     have hlo:(l.take off).length=off:=by simp; omega
     by_cases h1:i<off
     ·rw[if_pos h1]
      rw[List.append_assoc,List.getElem?_append_left (by omega),List.getElem?_take,if_pos h1] at hz
      exact hcc i z hz
     ·rw[if_neg h1]
      rw[List.append_assoc,List.getElem?_append_right (by omega),hlo] at hz
      by_cases h2:i<off+(l2.take n).length
      ·rw[if_pos h2,List.getElem?_map]
       rw[List.getElem?_append_left (by omega)] at hz
       rw[hz]; rfl
      ·rw[if_neg h2]
       rw[List.getElem?_append_right (by omega),List.getElem?_drop] at hz
       rw[show off+(l2.take n).length+(i -off -(l2.take n).length)=i by omega] at hz
       exact hcc i z hz
end
end Go.Sx
namespace Go.Sx
open Go
set_option linter.unusedVariables false
set_option linter.unusedSimpArgs false
def hpA (σ:St) (l:List Oper) (Y:Nat→Option (List Cell)) (done:Nat→Bool):Nat→Blk:=fun k=>
 match (if 64≤k then fnd l (k -64) 0 else none) with
 | some i=>(match Y i with | some cs=>(match done i with | true=> .cells cs | false=> .gone) | none=>σ.hp k)
 | none=>σ.hp k
def stA (σ:St) (l:List Oper) (T:Nat→Av) (Y:Nat→Option (List Cell)) (done:Nat→Bool):St:=⟨(stD σ l T done).tm,hpA σ l Y done⟩
section
variable {P:Program} {E:Env} {ops:Array Oper} {Q:Exit→Act→World→Prop} {σ:St}
end
end Go.Sx

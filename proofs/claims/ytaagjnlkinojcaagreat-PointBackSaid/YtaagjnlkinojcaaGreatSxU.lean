/-
  The layer: regions of open order, of whatever operations: what each does is told once, and whom it waits for is read off the text. No condition.
-/
import Derived.Test.YtaagjnlkinojcaaGreatSxX
namespace Go.Sx
open Go
set_option linter.unusedVariables false
set_option linter.unusedSimpArgs false
def z0N:List (Nat×Blk)→Nat→Option Blk
 | [],_=>none
 |(k,b)::l,j=>match Nat.beq j k with | true=>some b | false=>z0N l j
def z1a (hp:Nat→Blk):List (Nat×Blk)→Nat→Blk
 | []=>hp
 | l=>fun j=>match z0N l j with | some b=>b | none=>hp j
theorem z5C (hp:Nat→Blk) (l:List (Nat×Blk)) (j:Nat):z1a hp l j=match z0N l j with | some b=>b | none=>hp j:=by cases l<;>rfl
def fgt:List Nat→(Nat→Blk)→Nat→Blk
 | [],hp=>hp
 | b,hp=>fun j=>match z0c j b with | true=> .gone | false=>hp j
theorem z9N (b:List Nat) (hp:Nat→Blk) (j:Nat):fgt b hp j=match z0c j b with | true=> .gone | false=>hp j:=by cases b<;>rfl
structure LikeU (ops:Array Oper) (o:Oper) (b:List Nat) (τ σ:St):Prop where
 hp:∀ j,z0c j b=false→τ.hp j=σ.hp j
 ox:∀ x,x ∈ o.op.operands.toList→Sx.ox τ x=Sx.ox σ x
 gd:∀ i g,o.guard=some (i,g)→∀ d,(ops[i]?).bind (·.dst)=some d→τ.tm d=σ.tm d
def z75 (P:Program) (E:Env) (ops:Array Oper) (ns:List Nat) (o:Oper) (b:List Nat) (σ:St) (x:Av) (u:List (Nat×Blk)):Prop:=
 ∀ τ,LikeU ops o b τ σ→∀ β F a w,SRb E β F τ a w→(∀ d,o.dst=some d→z0c (nk (some d) 0) ns=true→β (nk (some d) 0)=none)→∀(K:Act→World→Prop) (Q:Exit→Act→World→Prop),
   (∀ v w' β' F',SRb E β' F' ((St.mk τ.tm (z1a τ.hp u)).put o.dst x) (a.put o.dst v) w'→(∀ k,z0N u k=none→β' k=β k)→K (a.put o.dst v) w')→
   if Region.wanted o (yielded ops a.tmps) then o.wp P a w K Q else K (a.put o.dst undef) w
def z0a (P:Program) (E:Env) (ops:Array Oper) (ns:List Nat):List (List Nat×List Nat)→List Oper→St→(St→Prop)→Prop
 | _,[],σ,K=>K σ
 | [],_::_,_,_=>False
 |(b,own)::bs,o::l,σ,K=>∃ x u,z75 P E ops ns o b σ x u∧(∀ j,z0N u j≠none→z0c j own=true)∧z0a P E ops ns bs l ((St.mk σ.tm (z1a σ.hp u)).put o.dst x) K
def zbM (ops:Array Oper) (l:List Oper) (i t:Nat):Bool:=match fnd l t 0 with
 | some k=>Nat.beq k i||(match Nat.blt k i with | true=>wts ops 3 i k | false=>wts ops 3 k i)
 | none=>true
def z5t (ops:Array Oper) (i:Nat):List (Nat×Nat)→List Nat
 | []=> []
 |(s,k)::ws=>match Nat.beq s i||(match Nat.blt s i with | true=>wts ops 3 i s | false=>wts ops 3 s i) with | true=>z5t ops i ws | false=>k::z5t ops i ws
def z6w (i:Nat):List (Nat×Nat)→List Nat
 | []=> []
 |(s,k)::ws=>match Nat.beq s i with | true=>k::z6w i ws | false=>z6w i ws
def z6e (ops:Array Oper) (ws:List (Nat×Nat)):Nat→List Oper→List (List Nat×List Nat)
 | _,[]=> []
 | i,_::l=>(z5t ops i ws,z6w i ws)::z6e ops ws (i+1) l
def zaq:Op→Bool
 | .call c=>match c.callee with | .value _=>true | _=>false
 | _=>false
def apA:Op→Option Nat
 | .call c=>match c.callee with | .builtin .append=>(match c.args.toList with | .tmp t::_=>some t | _=>none) | _=>none
 | _=>none
def zfB:List Oper→Nat→Bool
 | [],_=>false
 | o::l,t=>match apA o.op with | some s=>(match Nat.beq s t with | true=>true | false=>zfB l t) | none=>zfB l t
def zfC (l:List Oper) (t:Nat):Bool:=match fnd l t 0 with
 | some k=>(match l[k]? with | some o=>(match o.op with | .buildSlice _ _ _=>true | op=>((apA op).isSome||zaq op)) | none=>false)
 | none=>false
def ziR:List Oper→Bool
 | []=>false
 | o::l=>match apA o.op with | some _=>true | none=>ziR l
def zrB (l:List Oper):Option Nat→Bool
 | some d=>zfB l d
 | none=>false
def zbN:Bool→List Oper→Option Nat→Bool
 | true,_,_=>true
 | false,l,d=>zrB l d
def z3o (al:Bool) (all:List Oper):List Oper→List Nat
 | []=> []
 | o::l=>match o.op with
   | .alloc _=>nk o.dst 0::z3o al all l
   | .buildSlice _ _ _=>(match zbN al all o.dst with | true=>nk o.dst 0::z3o al all l | false=>z3o al all l)
   | op=>(match apA op with
     | some t=>(match zfC all t with
       | true=>(match zbN al all o.dst with | true=>nk o.dst 0::z3o al all l | false=>z3o al all l)
       | false=>nk o.dst 0::z3o al all l)
     | none=>(match zaq op with | true=>(match ziR all with | true=>nk o.dst 0::z3o al all l | false=>z3o al all l) | false=>z3o al all l))
def z9O (l:List Oper):List Nat:=z3o false l l
def z9P (ops:Array Oper) (i k:Nat):List (Nat×Nat)→Bool
 | []=>true
 |(s,j)::ws=>(match Nat.beq j k with | true=>(Nat.beq s i||wts ops 3 s i) | false=>true)&&z9P ops i k ws
def z6f (ops:Array Oper) (l:List Oper) (ns:List Nat) (ws:List (Nat×Nat)):Bool:=
 z2Z l&&(List.range ops.size).all fun i=>match ops[i]? with
  | some o=>o.after.toList.all (fun e=>!Region.binds .any e||Nat.blt e.on i)&&(match o.dst with | some d=>(match fnd l d 0 with | some j=>Nat.beq j i | none=>false) | none=>true)&&
    (o.op.operands.toList.all fun | .tmp t=>zbM ops l i t | _=>true)&&
    (match o.guard with | some (g,_)=>(match (ops[g]?).bind (·.dst) with | some d=>zbM ops l i d | none=>true) | none=>true)&&
    (z6w i ws).all (fun k=>!z0c k (z5t ops i ws))&&
    (match o.dst with | some d=>(match z0c (nk (some d) 0) ns with | true=>z9P ops i (nk (some d) 0) ws | false=>true) | none=>true)
  | none=>false
theorem z9Q {ops:Array Oper} {i s k:Nat}:∀ {ws:List (Nat×Nat)},z9P ops i k ws=true→(s,k) ∈ ws→s=i∨wts ops 3 s i=true
 | [],_,h=>by cases h
 |(s',q)::ws,hb,h=>by
  simp only[z9P,Bool.and_eq_true] at hb
  cases h with
  | tail _ h=>exact z9Q hb.2 h
  | head=>
    have h1:=hb.1
    rw[Nat.beq_refl] at h1
    dsimp only at h1
    rw[Bool.or_eq_true] at h1
    exact h1.imp Nat.eq_of_beq_eq_true id
def tmD (σ:St) (l:List Oper) (T:Nat→Av) (done:Nat→Bool):Nat→Av:=
 fun s=>match fnd l s 0 with | some i=>(match done i with | true=>T i | false=>σ.tm s) | none=>σ.tm s
def hpD (hp:Nat→Blk) (U:Nat→List (Nat×Blk)) (done:Nat→Bool):Nat→Nat→Blk
 | 0=>hp
 | n+1=>match done n with | true=>z1a (hpD hp U done n) (U n) | false=>hpD hp U done n
theorem z5m {hp:Nat→Blk} {U:Nat→List (Nat×Blk)} {d d':Nat→Bool} {j:Nat}:∀ n,(∀ s,s<n→z0N (U s) j≠none→d s=d' s)→hpD hp U d n j=hpD hp U d' n j
 | 0,_=>rfl
 | n+1,h=>by
   have ih:=z5m (hp:=hp) n fun s hs=>h s (by omega)
   have key:∀ d:Nat→Bool,hpD hp U d (n+1) j=match d n,z0N (U n) j with | true,some b=>b | _,_=>hpD hp U d n j:=by
    intro d
    simp only[hpD]
    cases d n with
    | true=>simp only[z5C]; cases z0N (U n) j<;>rfl
    | false=>cases z0N (U n) j<;>rfl
   rw[key d,key d']
   cases hf:z0N (U n) j with
   | none=>cases d n<;>cases d' n<;>exact ih
   | some b=>
     rw[h n (by omega) (by rw[hf]; simp)]
     cases d' n
     ·exact ih
     ·rfl
theorem ze8 {hp:Nat→Blk} {U:Nat→List (Nat×Blk)} {j i:Nat}:∀ n,i≤n→hpD hp U (fun s=>Nat.blt s i) n j=hpD hp U (fun _=>true) i j
 | 0,h=>by rw[Nat.le_zero.1 h]; rfl
 | n+1,h=>by
   by_cases hn:i=n+1
   ·subst hn
    exact z5m _ fun s hs _=>by rw[show Nat.blt s (n+1)=true by rw[Nat.blt_eq]; exact hs]
   ·have hb:Nat.blt n i=false:=by
     cases hb:Nat.blt n i with
     | false=>rfl
     | true=>rw[Nat.blt_eq] at hb; omega
    simp only[hpD,hb]
    exact ze8 n (by omega)
theorem ze9 {hp:Nat→Blk} {U:Nat→List (Nat×Blk)} {d d':Nat→Bool} {j i:Nat} (h1:d i=false) (h2:d' i=true) (h:∀ s,s≠i→d' s=d s):∀ n,(∀ s,i<s→s<n→z0N (U i) j≠none→z0N (U s) j≠none→d s=false)→i<n→
  hpD hp U d' n j=match z0N (U i) j with | some b=>b | none=>hpD hp U d n j
 | 0,_,hn=>by omega
 | n+1,hlate,hn=>by
   by_cases hi:i=n
   ·subst hi
    have e:hpD hp U d' i j=hpD hp U d i j:=z5m i fun s hs _=>h s (by omega)
    simp only[hpD,h1,h2,z5C]
    rw[e]
   ·have ih:=ze9 (hp:=hp) h1 h2 h n (fun s a b=>hlate s a (by omega)) (by omega)
    simp only[hpD]
    rw[h n (by omega)]
    cases hd:d n with
    | false=>exact ih
    | true=>
      simp only[z5C]
      cases hu:z0N (U n) j with
      | none=>exact ih
      | some b=>
        cases hu':z0N (U i) j with
        | none=>rfl
        | some b'=>
          have:=hlate n (by omega) (by omega) (by rw[hu']; simp) (by rw[hu]; simp)
          rw[hd] at this; cases this
theorem z76 {i:Nat} {k:Nat}:∀ {ws:List (Nat×Nat)},z0c k (z6w i ws)=true→(i,k) ∈ ws
 | [],h=>by cases h
 |(s,q)::ws,h=>by
  simp only[z6w] at h
  cases hb:Nat.beq s i with
  | true=>
    rw[hb] at h
    dsimp only at h
    simp only[z0c] at h
    split at h
    ·rename_i e
     rw[Nat.eq_of_beq_eq_true e,Nat.eq_of_beq_eq_true hb]
     exact List.mem_cons_self ..
    ·exact List.mem_cons_of_mem _ (z76 h)
  | false=>rw[hb] at h; exact List.mem_cons_of_mem _ (z76 h)
theorem zcB {ops:Array Oper} {i s k:Nat}:∀ {ws:List (Nat×Nat)},z0c k (z5t ops i ws)=false→(s,k) ∈ ws→s=i∨(s<i∧wts ops 3 i s=true)∨(i≤s∧wts ops 3 s i=true)
 | [],_,h=>by cases h
 |(s',q)::ws,hb,h=>by
  simp only[z5t] at hb
  have keep:z0c k (z5t ops i ws)=false∧((Nat.beq s' i||(match Nat.blt s' i with | true=>wts ops 3 i s' | false=>wts ops 3 s' i))=true∨k≠q):=by
   split at hb
   ·rename_i e; exact⟨hb,.inl e⟩
   ·simp only[z0c] at hb
    split at hb
    ·cases hb
    ·rename_i e; exact⟨hb,.inr fun e'=>by rw[e',Nat.beq_refl] at e; cases e⟩
  cases h with
  | tail _ h=>exact zcB keep.1 h
  | head=>
    rcases keep.2 with e | e
    ·simp only[Bool.or_eq_true] at e
     rcases e with e | e
     ·exact .inl (Nat.eq_of_beq_eq_true e)
     ·split at e
      ·rename_i hlt; exact .inr (.inl ⟨z1H hlt,e⟩)
      ·rename_i hlt
       refine .inr (.inr ⟨?_,e⟩)
       rcases Nat.lt_or_ge s i with h | h
       ·rw[←Nat.blt_eq] at h; rw[h] at hlt; cases hlt
       ·exact h
    ·exact absurd rfl e
section
variable {P:Program} {E:Env} {ops:Array Oper} {Q:Exit→Act→World→Prop} {σ:St}
theorem zgT {l:List Oper} {ns:List Nat} {ws:List (Nat×Nat)} {T:Nat→Av} {U:Nat→List (Nat×Blk)} (hl:∀ s i,fnd l s 0=some i→i<ops.size∧(ops[i]?).bind (·.dst)=some s) (hB:z6f ops l ns ws=true)
  (hws:∀ i j,i<ops.size→z0N (U i) j≠none→z0c j (z6w i ws)=true)
  (hq:∀(i:Nat) (o:Oper),ops[i]? =some o→z75 P E ops ns o (z5t ops i ws) ⟨tmD σ l T (fun j=>Nat.blt j i),hpD σ.hp U (fun _=>true) i⟩ (T i) (U i))
  (hk:∀ a w,SR E ⟨tmD σ l T (fun _=>true),hpD σ.hp U (fun _=>true) ops.size⟩ a w→Q .normal a w):
  ∀(m:Nat) (listed:Array Bool) (a:Act) (w:World),cnt (fun j=>!listed.getD j true) ops.size=m→HeadInv .any ops ops.size listed→
   (∃ β F,SRb E β F ⟨tmD σ l T (fun j=>listed.getD j false),hpD σ.hp U (fun j=>listed.getD j false) ops.size⟩ a w∧∀ k,z0c k ns=true→(∀ s,s<ops.size→listed.getD s false=true→z0c k (z6w s ws)=false)→β k=none)→wpAny P .any ops Q m listed a w:=by
 simp only[z6f,Bool.and_eq_true,List.all_eq_true,List.mem_range] at hB
 obtain⟨hf,hB⟩:=hB
 intro m
 induction m with
 | zero=>
   intro listed a w hcn hI ⟨β,F,hS,hn⟩
   have hall:=z78 ops.size hcn
   have hall':∀ i,i<ops.size→listed.getD i false=true:=by
    intro i hi
    have h1:=hall i hi
    have hs':i<listed.size:=by rw[hI.size]; omega
    simp[hs'] at h1 ⊢; exact h1
   refine⟨?_,hk a w ?_⟩
   ·cases hr:Region.ready .any ops listed with
    | nil=>rfl
    | cons i r=>
      have hi:i ∈ Region.ready .any ops listed:=by rw[hr]; exact List.mem_cons_self ..
      obtain⟨h1,o,ho,_⟩:=mem_ready.1 hi
      have hlt:=(Array.getElem?_eq_some_iff.1 ho).1
      have:=hall i hlt
      rw[h1] at this; cases this
   ·have e1:tmD σ l T (fun j=>listed.getD j false)=tmD σ l T (fun _=>true):=by
     funext s
     simp only[tmD]
     split
     ·rename_i i hi
      rw[hall' i (hl s i hi).1]
     ·rfl
    have e2:hpD σ.hp U (fun j=>listed.getD j false) ops.size=hpD σ.hp U (fun _=>true) ops.size:=by
     funext j
     exact z5m _ fun s hs _=>hall' s hs
    rw[←e1,←e2]
    exact⟨β,F,hS⟩
 | succ m ih=>
   intro listed a w hcn hI ⟨β,F,hS,hn⟩
   obtain⟨i0,h1,h2,h3⟩:=z7Y ops.size (by omega:cnt (fun j=>!listed.getD j true) ops.size≠0)
   have h2':listed.getD i0 true=false:=by simpa using h2
   have hr0:i0 ∈ Region.ready .any ops listed:=by
    refine mem_ready.2 ⟨h2',?_⟩
    have:=hB i0 h1
    split at this
    ·rename_i o ho
     simp only[Bool.and_eq_true,List.all_eq_true] at this
     refine⟨o,ho,fun e he hbn=>?_⟩
     have h4:e.on<i0:=z1H (by simpa[hbn] using this.1.1.1.1.1 e (by simpa using he))
     have h5:=h3 e.on h4
     have hs':e.on<listed.size:=by rw[hI.size]; omega
     simp[hs'] at h5
     simp[hs',h5]
    ·cases this
   refine⟨fun h=>(by rw[h] at hr0; cases hr0),fun i hi=>?_⟩
   obtain⟨hun,o,ho,hdeps⟩:=mem_ready.1 hi
   have hin:i<ops.size:=(Array.getElem?_eq_some_iff.1 ho).1
   have hs':i<listed.size:=by rw[hI.size]; omega
   have hunf:listed.getD i false=false:=by simp[hs'] at hun ⊢; exact hun
   have hBi:=hB i hin
   rw[ho] at hBi
   simp only[Bool.and_eq_true,List.all_eq_true] at hBi
   obtain⟨⟨⟨⟨⟨_,hBd⟩,hBo⟩,hBg⟩,hBw⟩,hBc⟩:=hBi
   have hcnt:cnt (fun j=>!(listed.setIfInBounds i true).getD j true) ops.size=m:=by
    have:=zas (f:=fun j=>!listed.getD j true) (f':=fun j=>!(listed.setIfInBounds i true).getD j true) (i:=i) (by simp[hun]) (by simp[hs']) (fun j hj=>by simp only[getD_set_ne true (Ne.symm hj)]) ops.size
    rw[if_pos hin] at this
    omega
   have hbefore:∀ s,wts ops 3 i s=true→listed.getD s false=true:=fun s hs=>zh1 hI hi hs
   have hafter:∀ s,wts ops 3 s i=true→listed.getD s false=false:=by
    intro s hs
    cases h:listed.getD s false with
    | false=>rfl
    | true=>have:=z7b hI 3 s i hs h; rw[hunf] at this; cases this
   have hslot:∀ t,zbM ops l i t=true→tmD σ l T (fun j=>listed.getD j false) t=tmD σ l T (fun j=>Nat.blt j i) t:=by
    intro t ht
    simp only[zbM] at ht
    simp only[tmD]
    cases hfd:fnd l t 0 with
    | none=>rfl
    | some k=>
      rw[hfd] at ht
      dsimp only at ht ⊢
      simp only[Bool.or_eq_true] at ht
      rcases ht with ht | ht
      ·have:=Nat.eq_of_beq_eq_true ht
       subst this
       have hb:Nat.blt k k=false:=by
        cases hb:Nat.blt k k with
        | false=>rfl
        | true=>rw[Nat.blt_eq] at hb; omega
       rw[hunf,hb]
      ·split at ht
       ·rename_i hlt; simp only[hbefore k ht,hlt]
       ·rename_i hlt; simp only[hafter k ht,hlt]
   have hord:∀ j s,z0c j (z5t ops i ws)=false→s<ops.size→z0N (U s) j≠none→s≠i→listed.getD s false=Nat.blt s i:=by
    intro j s hj hs hu hne
    rcases zcB hj (z76 (hws s j hs hu)) with h |⟨h,h'⟩ |⟨h,h'⟩
    ·exact absurd h hne
    ·rw[hbefore s h',show Nat.blt s i=true by rw[Nat.blt_eq]; exact h]
    ·rw[hafter s h']
     cases hb:Nat.blt s i with
     | false=>rfl
     | true=>rw[Nat.blt_eq] at hb; omega
   have hlike:LikeU ops o (z5t ops i ws) ⟨tmD σ l T (fun j=>listed.getD j false),hpD σ.hp U (fun j=>listed.getD j false) ops.size⟩ ⟨tmD σ l T (fun j=>Nat.blt j i),hpD σ.hp U (fun _=>true) i⟩:=by
    refine⟨fun j hj=>?_,fun x hx=>?_,fun g b hg d hd=>?_⟩
    ·show hpD σ.hp U (fun j=>listed.getD j false) ops.size j=hpD σ.hp U (fun _=>true) i j
     rw[←ze8 ops.size (by omega)]
     refine z5m _ fun s hs hu=>?_
     by_cases hsi:s=i
     ·subst hsi
      have hb:Nat.blt s s=false:=by
       cases hb:Nat.blt s s with
       | false=>rfl
       | true=>rw[Nat.blt_eq] at hb; omega
      rw[hunf,hb]
     ·exact hord j s hj hs hu hsi
    ·cases x with
     | tmp t=>
       show str _=str _
       simp only[ev]
       rw[hslot t (hBo (.tmp t) hx)]
     | const v=>rfl
     | global g=>rfl
     | func f=>rfl
    ·rw[hg] at hBg
     dsimp only at hBg
     rw[hd] at hBg
     exact hslot d hBg
   have hqq:=hq i o ho _ hlike β F a w hS (fun d hd hm=>hn _ hm fun s hs hls=>by
    cases hmb:z0c (nk (some d) 0) (z6w s ws) with
    | false=>rfl
    | true=>
      rw[hd] at hBc
      dsimp only at hBc
      rw[hm] at hBc
      rcases z9Q hBc (z76 hmb) with e | e
      ·rw[e,hunf] at hls; cases hls
      ·rw[hafter s e] at hls; cases hls) (fun a' w'=>wpAny P .any ops Q m (listed.setIfInBounds i true) a' w') Q fun v w' β' F' hS' hβ'=>by
    have e2:z1a (hpD σ.hp U (fun j=>listed.getD j false) ops.size) (U i)=hpD σ.hp U (fun j=>(listed.setIfInBounds i true).getD j false) ops.size:=by
     funext j
     rw[z5C]
     refine(ze9 (d:=fun j=>listed.getD j false) (d':=fun j=>(listed.setIfInBounds i true).getD j false) hunf (by simp[hs']) (fun s hs=>getD_set_ne false (Ne.symm hs)) _ (fun s h1 h2 h3 h4=>?_) hin).symm
     have hbad:z0c j (z5t ops i ws)=false:=by
      have:=hBw j (zcH _ _ (hws i j hin h3))
      simpa using this
     have:=hord j s hbad h2 h4 (by omega)
     rw[this]
     cases hb:Nat.blt s i with
     | false=>rfl
     | true=>rw[Nat.blt_eq] at hb; omega
    refine ih _ _ _ hcnt (hI.set hi hin) ⟨β',F',?_,fun k hk hg=>?_⟩
    case refine_2=>
     have hf:z0N (U i) k=none:=by
      cases hf:z0N (U i) k with
      | none=>rfl
      | some b=>
        have h1:=hws i k hin (by rw[hf]; simp)
        rw[hg i hin (by simp[hs'])] at h1
        cases h1
     rw[hβ' k hf]
     refine hn k hk fun s hs hls=>hg s hs ?_
     by_cases hsi:s=i
     ·subst hsi; simp[hs']
     ·rw[getD_set_ne false (Ne.symm hsi)]; exact hls
    have e1:((St.mk (tmD σ l T (fun j=>listed.getD j false)) (z1a (hpD σ.hp U (fun j=>listed.getD j false) ops.size) (U i))).put o.dst (T i))=⟨tmD σ l T (fun j=>(listed.setIfInBounds i true).getD j false),hpD σ.hp U (fun j=>(listed.setIfInBounds i true).getD j false) ops.size⟩:=by
     rw[e2]
     cases hd:o.dst with
     | none=>
       have e:tmD σ l T (fun j=>(listed.setIfInBounds i true).getD j false)=tmD σ l T (fun j=>listed.getD j false):=by
        funext s
        simp only[tmD]
        split
        ·rename_i j hj
         have hjs:=(hl s j hj).2
         have hji:j≠i:=by rintro rfl; rw[ho] at hjs; simp[hd] at hjs
         rw[getD_set_ne false (Ne.symm hji)]
        ·rfl
       rw[e]
       rfl
     | some d=>
       rw[hd] at hBd
       have hfd:fnd l d 0=some i:=by
        dsimp only at hBd
        split at hBd
        ·rename_i j hj; rw[hj,Nat.eq_of_beq_eq_true hBd]
        ·cases hBd
       show St.mk _ _=St.mk _ _
       congr 1
       funext s
       simp only[tmD]
       by_cases hsd:s=d
       ·subst hsd
        simp[hfd,hs']
       ·rw[if_neg hsd]
        split
        ·rename_i j hj
         have hji:j≠i:=by
          rintro rfl
          have h5:=(hl s j hj).2
          rw[ho] at h5
          simp[hd] at h5
          exact hsd h5.symm
         rw[getD_set_ne false (Ne.symm hji)]
        ·rfl
    rw[←e1]
    exact hS'
   unfold wpOp
   rw[ho]
   dsimp only
   split
   ·rename_i hw; rw[if_pos hw] at hqq; exact .inl hqq
   ·rename_i hw; rw[if_neg hw] at hqq; exact hqq
def z5T (σ:St):List Oper→List Av→List (List (Nat×Blk))→St
 | o::l,x::xs,u::us=>z5T ((St.mk σ.tm (z1a σ.hp u)).put o.dst x) l xs us
 | _,_,_=>σ
theorem zea:∀(l:List Oper) (xs:List Av) (us:List (List (Nat×Blk))) (σ:St),xs.length=l.length→us.length=l.length→(z5T σ l xs us).tm=(pre σ l xs).tm∧(z5T σ l xs us).hp=hpD σ.hp (fun i=>us.getD i []) (fun _=>true) l.length
 | [],[],[],σ,_,_=>⟨rfl,rfl⟩
 | o::l,x::xs,u::us,σ,hx,hu=>by
   have key:∀(l:List Oper) (xs:List Av) (σ τ:St),σ.tm=τ.tm→(pre σ l xs).tm=(pre τ l xs).tm:=by
    intro l
    induction l with
    | nil=>intro xs σ τ h; exact h
    | cons q l ih=>
      intro xs σ τ h
      cases xs with
      | nil=>exact h
      | cons x xs=>exact ih xs _ _ (by cases q.dst<;>simp[St.put,St.set,h])
   obtain⟨h1,h2⟩:=zea l xs us ((St.mk σ.tm (z1a σ.hp u)).put o.dst x) (by simpa using hx) (by simpa using hu)
   refine⟨?_,?_⟩
   ·simp only[z5T,pre]
    rw[h1]
    exact key l xs _ _ (by cases o.dst<;>rfl)
   ·simp only[z5T]
    rw[h2]
    have e:((St.mk σ.tm (z1a σ.hp u)).put o.dst x).hp=z1a σ.hp u:=by cases o.dst<;>rfl
    rw[e]
    have:∀ n,hpD (z1a σ.hp u) (fun i=>us.getD i []) (fun _=>true) n=hpD σ.hp (fun i=>(u::us).getD i []) (fun _=>true) (n+1):=by
     intro n
     induction n with
     | zero=>rfl
     | succ n ih=>rw[hpD,ih]; rfl
    exact this _
 | [],_::_,_,_,h,_=>by simp at h
 | [],_,_::_,_,_,h=>by simp at h
 | _::_,[],_,_,h,_=>by simp at h
 | _::_,_,[],_,_,h=>by simp at h
theorem zb3 {ns:List Nat}:∀(bs:List (List Nat×List Nat)) (l:List Oper) (σ:St) (K:St→Prop),z0a P E ops ns bs l σ K→∃(xs:List Av) (us:List (List (Nat×Blk))),xs.length=l.length∧us.length=l.length∧
  (∀ i o b own,l[i]? =some o→bs[i]? =some (b,own)→z75 P E ops ns o b (z5T σ (l.take i) (xs.take i) (us.take i)) (xs.getD i (.c .un)) (us.getD i []))∧
  (∀ i b own,bs[i]? =some (b,own)→∀ j,z0N (us.getD i []) j≠none→z0c j own=true)∧K (z5T σ l xs us)
 | bs,[],σ,K,h=>⟨[],[],rfl,rfl,fun i o b own h=>by simp at h,fun i b own _ j hj=>by simp[z0N] at hj,by simpa[z0a,z5T] using h⟩
 | [],o::l,σ,K,h=>h.elim
 |(b,own)::bs,o::l,σ,K,h=>by
  obtain⟨x,u,h1,h2,h3⟩:=h
  obtain⟨xs,us,k1,k2,k3,k4,k5⟩:=zb3 bs l _ K h3
  refine⟨x::xs,u::us,by simp[k1],by simp[k2],fun i o' b' own' ho hb=>?_,fun i b' own' hb=>?_,k5⟩
  ·cases i with
   | zero=>
     simp at ho hb
     obtain⟨rfl,rfl⟩:=hb
     subst ho
     exact h1
   | succ i=>exact k3 i o' b' own' (by simpa using ho) (by simpa using hb)
  ·cases i with
   | zero=>
     simp at hb
     obtain⟨rfl,rfl⟩:=hb
     exact h2
   | succ i=>exact k4 i b' own' (by simpa using hb)
theorem z7S {ws:List (Nat×Nat)}:∀(l:List Oper) (k i:Nat),i<l.length→(z6e ops ws k l)[i]? =some (z5t ops (k+i) ws,z6w (k+i) ws)
 | [],_,_,h=>by simp at h
 | o::l,k,0,_=>rfl
 | o::l,k,i+1,h=>by
   simp only[z6e,List.getElem?_cons_succ]
   rw[z7S l (k+1) i (by simpa using h),show k+1+i=k+(i+1) by omega]
theorem zkS {l:List Oper} {xs:List Av} (hf:z2Z l=true) (hx:xs.length=l.length) (i:Nat) (s:Nat):(pre σ (l.take i) (xs.take i)).tm s=tmD σ l (fun j=>xs.getD j (.c .un)) (fun j=>Nat.blt j i) s:=by
 rw[z9W _ _ _ _ (zfH _ i hf) (by simp only[List.length_take,hx])]
 simp only[tmD]
 cases hfn:fnd l s 0 with
 | none=>rw[z7B _ i _ _ hfn]
 | some j=>
   dsimp only
   rcases Nat.lt_or_ge j i with hji | hji
   ·rw[zbL _ i _ _ hfn hji,show Nat.blt j i=true by rw[Nat.blt_eq]; exact hji]
    simp[List.getD_eq_getElem?_getD,List.getElem?_take,hji]
   ·have hb:Nat.blt j i=false:=by
     cases hb:Nat.blt j i with
     | false=>rfl
     | true=>rw[Nat.blt_eq] at hb; omega
    rw[hb]
    have:fnd (l.take i) s 0=none:=by
     cases h:fnd (l.take i) s 0 with
     | none=>rfl
     | some j'=>
       obtain⟨_,h5⟩:=z5W _ _ _ _ h
       rw[Nat.sub_zero] at h5
       obtain⟨o,ho,hod⟩:=Option.bind_eq_some_iff.1 h5
       have hj':j'<i:=by
        have:=(List.getElem?_eq_some_iff.1 ho).1
        simp only[List.length_take] at this
        omega
       have key:∀(l:List Oper) (m t j':Nat),fnd (l.take m) t 0=some j'→fnd l t 0=some j':=by
        intro l
        induction l with
        | nil=>intro m t j' h; simp[fnd] at h
        | cons q l ih=>
          intro m t j' h
          cases m with
          | zero=>simp[fnd] at h
          | succ m=>
            simp only[List.take_succ_cons,fnd] at h ⊢
            have nx:fnd (l.take m) t (0+1)=some j'→fnd l t (0+1)=some j':=by
             intro h
             rw[z3i] at h ⊢
             obtain⟨j2,h1,h2⟩:=Option.map_eq_some_iff.1 h
             rw[ih m t j2 h1]
             simpa using h2
            cases ho:q.dst with
            | none=>rw[ho] at h; exact nx h
            | some e=>
              rw[ho] at h
              dsimp only at h ⊢
              cases hb:Nat.beq e t with
              | true=>rw[hb] at h; exact h
              | false=>rw[hb] at h; exact nx h
       have:=key l i s j' h
       rw[hfn] at this
       cases this
       omega
    rw[this]
def z45 {R:Type}:List (List Nat×List Nat)→(List (List Nat×List Nat)→R)→R
 | [],k=>k []
 |(a,b)::l,k=>go a fun a=>go b fun b=>z45 l fun l=>k ((a,b)::l)
where go:List Nat→(List Nat→R)→R
 | [],k=>k []
 | x::l,k=>go l fun l=>k (x::l)
theorem zb4 {R:Type}:∀(l:List Nat) (k:List Nat→R),z45.go l k=k l
 | [],k=>rfl
 | x::l,k=>by simp only[z45.go,zb4 l]
theorem zb5 {R:Type}:∀(l:List (List Nat×List Nat)) (k:List (List Nat×List Nat)→R),z45 l k=k l
 | [],k=>rfl
 |(a,b)::l,k=>by simp only[z45,zb4,zb5 l]
def wsV (al:Bool) (all:List Oper):Nat→List Oper→List Nat→List (Nat×Nat)
 | _,[],_=> []
 | i,o::l,ks=>match o.op with
   | .store _ _ _=>(match ks with | k::ks=>(i,k)::wsV al all (i+1) l ks | []=>wsV al all (i+1) l [])
   | .mapUpdate _ _ _ _=>(match ks with | k::ks=>(i,k)::wsV al all (i+1) l ks | []=>wsV al all (i+1) l [])
   | .alloc _=>(i,nk o.dst 0)::wsV al all (i+1) l ks
   | .buildSlice _ _ _=>(match zbN al all o.dst with | true=>(i,nk o.dst 0)::wsV al all (i+1) l ks | false=>wsV al all (i+1) l ks)
   | op=>(match apA op with
     | some t=>(match zfC all t with
       | true=>(i,nk (some t) 0)::(match zbN al all o.dst with | true=>(i,nk o.dst 0)::wsV al all (i+1) l ks | false=>wsV al all (i+1) l ks)
       | false=>(match ks with | k::ks=>(i,k)::(i,nk o.dst 0)::wsV al all (i+1) l ks | []=>(i,nk o.dst 0)::wsV al all (i+1) l []))
     | none=>(match zaq op with | true=>(match ziR all with | true=>(i,nk o.dst 0)::wsV al all (i+1) l ks | false=>wsV al all (i+1) l ks) | false=>wsV al all (i+1) l ks))
def wsU (i:Nat) (l:List Oper) (ks:List Nat):List (Nat×Nat):=wsV false l i l ks
theorem z6F {id:Nat} {l:List Oper} (ns:List Nat) (ws:List (Nat×Nat)) {bs:List (List Nat×List Nat)} (hm:P.follows .mixedOrders=true) (hB:z6f l.toArray l ns ws=true) (hbs:z45 (z6e l.toArray ws 0 l) some=some bs) (hks:ns.all (Nat.ble 64)=true)
  (h:z0a P E l.toArray ns bs l (σ.kills ns) (fun τ=>WL P E l.toArray Q [] τ)):W P E (.region id l.toArray true) Q σ:=by
 intro a w hS
 obtain⟨β,F,hS⟩:=hS
 obtain⟨β,hS,hn⟩:=hS.kills ns (fun k hk=>by
  have:=Nat.le_of_ble_eq_true (List.all_eq_true.1 hks k hk)
  have:=hS.nbl
  omega)
 generalize σ.kills ns=σ at*
 simp only[zb5,Option.some.injEq] at hbs
 subst hbs
 obtain⟨xs,us,k1,k2,k3,k4,k5⟩:=zb3 _ _ _ _ h
 have hB0:=hB
 simp only[z6f,Bool.and_eq_true] at hB
 have hf:=hB.1
 have hget:∀(i:Nat) (o:Oper),l.toArray[i]? =some o→l[i]? =some o:=fun i o h=>by simpa using h
 refine wp_region_any hm ?_
 have hcnt:cnt (fun j=>!(Array.replicate l.toArray.size false).getD j true) l.toArray.size=l.toArray.size:=by
  have:∀ m,m≤l.length→cnt (fun j=>!(Array.replicate l.toArray.size false).getD j true) m=m:=by
   intro m
   induction m with
   | zero=>intro _; rfl
   | succ m ih=>
     intro hm
     simp only[cnt,ih (by omega)]
     simp[show m<l.length by omega]
  exact this l.toArray.size (by simp)
 have htk:∀ i,i≤l.length→z5T σ (l.take i) (xs.take i) (us.take i)=⟨tmD σ l (fun j=>xs.getD j (.c .un)) (fun j=>Nat.blt j i),hpD σ.hp (fun j=>us.getD j []) (fun _=>true) i⟩:=by
  intro i hi
  obtain⟨e1,e2⟩:=zea (l.take i) (xs.take i) (us.take i) σ (by simp[k1]) (by simp[k2])
  have e3:(z5T σ (l.take i) (xs.take i) (us.take i)).tm=tmD σ l (fun j=>xs.getD j (.c .un)) (fun j=>Nat.blt j i):=by
   rw[e1]
   funext s
   exact zkS hf k1 i s
  have e4:(z5T σ (l.take i) (xs.take i) (us.take i)).hp=hpD σ.hp (fun j=>us.getD j []) (fun _=>true) i:=by
   rw[e2]
   have:(l.take i).length=i:=by simp; omega
   rw[this]
   have:∀ n,n≤i→hpD σ.hp (fun j=>(us.take i).getD j []) (fun _=>true) n=hpD σ.hp (fun j=>us.getD j []) (fun _=>true) n:=by
    intro n
    induction n with
    | zero=>intro _; rfl
    | succ n ih=>
      intro hn
      simp only[hpD]
      rw[ih (by omega)]
      have:(us.take i).getD n []=us.getD n []:=by simp[List.getD_eq_getElem?_getD,List.getElem?_take,show n<i by omega]
      rw[this]
   exact this i (Nat.le_refl _)
  rw[←e3,←e4]
 refine zgT (P:=P) (E:=E) (ops:=l.toArray) (Q:=Q) (σ:=σ) (l:=l) (ws:=ws) (T:=fun j=>xs.getD j (.c .un)) (U:=fun j=>us.getD j [])
  (fun s i hi=>by
    obtain⟨_,h5⟩:=z5W _ _ _ _ hi
    rw[Nat.sub_zero] at h5
    obtain⟨o,ho,hod⟩:=Option.bind_eq_some_iff.1 h5
    exact⟨by simpa using (List.getElem?_eq_some_iff.1 ho).1,by simp[ho,hod]⟩)
  hB0
  (fun i j hi hu=>by
    have:=z7S (ops:=l.toArray) (ws:=ws) l 0 i (by simpa using hi)
    rw[Nat.zero_add] at this
    exact k4 i _ _ this j hu)
  (fun i o ho=>by
    have ho:=hget i o ho
    have hlt:i<l.length:=(List.getElem?_eq_some_iff.1 ho).1
    have hb:=z7S (ops:=l.toArray) (ws:=ws) l 0 i hlt
    rw[Nat.zero_add] at hb
    have:=k3 i o _ _ ho hb
    rw[htk i (by omega)] at this
    exact this)
  (fun a w hS=>k5 a w (by
    have:=htk l.length (Nat.le_refl _)
    simp only[List.take_length,←k1,←k2] at this
    have e:tmD σ l (fun j=>xs.getD j (.c .un)) (fun j=>Nat.blt j xs.length)=tmD σ l (fun j=>xs.getD j (.c .un)) (fun _=>true):=by
     funext s
     simp only[tmD]
     split
     ·rename_i i hi
      obtain⟨_,h5⟩:=z5W _ _ _ _ hi
      rw[Nat.sub_zero] at h5
      obtain⟨o,ho,hod⟩:=Option.bind_eq_some_iff.1 h5
      rw[show Nat.blt i xs.length=true by rw[Nat.blt_eq,k1]; exact(List.getElem?_eq_some_iff.1 ho).1]
     ·rfl
    rw[e] at this
    have e2:us.take xs.length=us:=by rw[k1,←k2]; exact List.take_length
    have e3:l.take xs.length=l:=by rw[k1]; exact List.take_length
    rw[e2,e3] at this
    rw[this]
    rw[show l.toArray.size=xs.length by simp[k1]] at hS
    exact hS))
  l.toArray.size (Array.replicate l.toArray.size false) a {w with drawn:=w.drawn+1} hcnt
  ⟨by simp,fun j oj _ hl=>(by rw[getD_replicate_false] at hl; cases hl),fun t _ ht=>getD_in (by simpa using ht) (getD_replicate_false _ _)⟩ ?_
 have e1:tmD σ l (fun j=>xs.getD j (.c .un)) (fun j=>(Array.replicate l.toArray.size false).getD j false)=σ.tm:=by
  funext s
  simp only[tmD]
  split
  ·rw[getD_replicate_false]
  ·rfl
 have e2:∀ n,hpD σ.hp (fun j=>us.getD j []) (fun j=>(Array.replicate l.toArray.size false).getD j false) n=σ.hp:=by
  intro n
  induction n with
  | zero=>rfl
  | succ n ih=>simp only[hpD]; rw[getD_replicate_false]; exact ih
 rw[e1,e2]
 exact⟨β,F,hS.drawn _,fun k hk _=>hn k (.inr (zcH _ _ hk))⟩
end
section
variable {P:Program} {E:Env} {ops:Array Oper} {Q:Exit→Act→World→Prop} {σ:St}
theorem z5U (hp:Nat→Blk) (j:Nat) (b:Blk):z1a hp [(j,b)]=fun i=>if i=j then b else hp i:=by
 funext i
 simp only[z1a,z0N]
 by_cases h:i=j
 ·subst h; simp
 ·have hb:Nat.beq i j=false:=by
   cases hb:Nat.beq i j with
   | false=>rfl
   | true=>exact absurd (Nat.eq_of_beq_eq_true hb) h
  rw[if_neg h,hb]
theorem zgU {ns:List Nat} {bs:List (List Nat×List Nat)} {K:St→Prop} (h:K σ):z0a P E ops ns bs [] σ K:=by cases bs<;>exact h
theorem z5D {ns b own:List Nat} {bs:List (List Nat×List Nat)} {o:Oper} {l:List Oper} {x:Av} {u:List (Nat×Blk)} {K:St→Prop} (h:z75 P E ops ns o b σ x u) (ho:∀ j,z0N u j≠none→z0c j own=true∧z0N u j≠some .gone)
 (hk:z0a P E ops ns bs l ((St.mk σ.tm (z1a σ.hp u)).put o.dst x) K):z0a P E ops ns ((b,own)::bs) (o::l) σ K:=⟨x,u,h,fun j hj=>(ho j hj).1,hk⟩
theorem SRb.lose {β:Nat→Option Nat} {F:Nat→Prop} {τ:St} {a:Act} {w:World} (h:SRb E β F σ a w) (h1:τ.tm=σ.tm) (h2:∀ j,τ.hp j=σ.hp j∨τ.hp j= .gone):SRb E β F τ a w:=by
 have hne:∀ j,τ.hp j≠ .gone→σ.hp j=τ.hp j:=fun j hj=>(h2 j).elim (fun e=>e.symm) (fun e=>absurd e hj)
 refine⟨fun i=>by rw[h1]; exact h.tm i,h.sz,h.df,fun j=>?_,fun i j g hi hj=>h.inj i j g (by rw[hne i hi]; exact hi) (by rw[hne j hj]; exact hj),fun j g hj=>h.own j g (by rw[hne j hj]; exact hj),h.lt,h.fr,h.keep,h.bb,h.nbl⟩
 rcases h2 j with e | e
 ·rw[e]; exact h.hp j
 ·rw[e]; exact trivial
theorem ziS {ns b:List Nat} {o:Oper} {x:Av} (hE:z0e E.n o.dst=true) (h:OpS P E ops o ⟨σ.tm,fgt b σ.hp⟩ x):z75 P E ops ns o b σ x []:=by
 intro τ hl β F a w hS hn K Q hK
 have h1:SRb E β F ⟨τ.tm,fgt b σ.hp⟩ a w:=hS.lose rfl fun j=>by
  show fgt b σ.hp j=_∨fgt b σ.hp j= .gone
  rw[z9N]
  cases hb:z0c j b with
  | true=>exact .inr rfl
  | false=>exact .inl (hl.hp j hb).symm
 exact h ⟨τ.tm,fgt b σ.hp⟩ ⟨rfl,fun y hy=>hl.ox y hy,hl.gd⟩ β F a w h1 K Q fun v w' F' g1 g2 g3 g4=>hK v w' β F' ((hS.grown g1 g2 g3).put g4 (z0x hE)) (fun _ _=>rfl)
theorem z20 {ns b own:List Nat} {bs:List (List Nat×List Nat)} {o:Oper} {l:List Oper} {x:Av} {K:St→Prop} {d:Option Nat} (hd:z0j o.dst some=some d) (hE:z0e E.n d=true) (h:OpS P E ops o ⟨σ.tm,fgt b σ.hp⟩ x)
  (hk:z0a P E ops ns bs l (σ.put d x) K):z0a P E ops ns ((b,own)::bs) (o::l) σ K:=by
 simp only[z0t,Option.some.injEq] at hd
 subst hd
 exact z5D (ziS hE h) (fun j hj=>absurd rfl hj) hk
theorem zeb {β:Nat→Option Nat} {F:Nat→Prop} {a:Act} {w:World} {j:Nat} (h:SRb E β F σ a w) (hj:β j=none) (hjb:E.nb≤j) (hgone:σ.hp j= .gone) {cur:Array Value} {t:TypeId} {cs:List Cell}
  (hsz:cur.size=cs.length) (hc:∀(i:Nat) (x:Cell) (v:Value),cs[i]? =some x→cur[i]? =some v→CellR β F w x v):
  ∃ β',SRb E β' F (σ.seth j (.cells cs)) a (w.alloc (.cells cur t))∧β' j=some w.heap.size∧∀ k,k≠j→β' k=β k:=by
 have hβ:∀ i g,β i=some g→(if i=j then some w.heap.size else β i)=some g:=by
  intro i g hi
  rw[if_neg (by intro e; subst e; rw[hj] at hi; cases hi)]; exact hi
 have hs:∀ k,k<w.heap.size→(w.alloc (.cells cur t)).heap[k]? =w.heap[k]?:=fun k hk=>RowKit.Below.heap_alloc w _ k hk
 obtain⟨h1,h2⟩:=h.alloc hj hjb hgone (.cells cur t) (.cells cs) ⟨w.heap.size,cur,by simp,z3h cur t,Nat.le_of_eq hsz.symm,fun i x v hx hv=>
  (hc i x v hx hv).mono hβ (fun b hb=>⟨hb,hs b (h.fr b hb).1⟩) (fun g n hc=>hc.same (hs g hc.lt))⟩
 exact⟨_,h1,by simp,fun k hk=>if_neg hk⟩
theorem zrC {ns b own:List Nat} {bs:List (List Nat×List Nat)} {o:Oper} {l:List Oper} {K:St→Prop} {t:TypeId} {d:Nat} {cs:List Cell} (hop:o.op= .alloc t) (hg:o.guard=none) (hd:o.dst=some d) (hE:z0e E.n (some d)=true) (hz:z2C (z68 P t) some=some cs) (hz0:z01 P t)
  (hgone:σ.hp (nk (some d) 0)= .gone) (hb:z0c (nk (some d) 0) b=false) (hns:z0c (nk (some d) 0) ns=true) (ho:z0c (nk (some d) 0) own=true)
  (hk:z0a P E ops ns bs l ((σ.seth (nk (some d) 0) (.cells cs)).put (some d) (.c (.ptr (nk (some d) 0) 0))) K):z0a P E ops ns ((b,own)::bs) (o::l) σ K:=by
 have eu:∀ hp:Nat→Blk,z1a hp [(nk (some d) 0,.cells cs)]=fun i=>if i=nk (some d) 0 then .cells cs else hp i:=fun hp=>z5U hp _ _
 refine z5D (x:= .c (.ptr (nk (some d) 0) 0)) (u:= [(nk (some d) 0,.cells cs)]) ?_ (fun j hj=>?_) ?_
 ·intro τ hl β F a w hS hn K Q hK
  rw[show Region.wanted o (yielded ops a.tmps)=true by simp[Region.wanted,hg],if_pos rfl]
  have hgτ:τ.hp (nk (some d) 0)= .gone:=by rw[hl.hp _ hb]; exact hgone
  have hnb:E.nb≤nk (some d) 0:=by
   have:=hS.nbl
   simp only[nk,Option.getD_some,Nat.mul_zero,Nat.add_zero]
   omega
  have h1:=hn d hd hns
  obtain⟨z,z1,z2,z3⟩:=z6t (z3P hz) hz0 β F w
  obtain⟨β2,hS2,h4,h5⟩:=zeb (t:=t) hS h1 hnb hgτ z2 z3
  unfold Oper.wp
  have hrun:(execOp a.eval o).run P w= .ok (.value (.pointer (some ⟨w.heap.size,0,none⟩))) (w.alloc (.cells z.cells t)):=by
   simp[execOp,hop,Instr.alloc,z1,newVar,newRow]
  rw[hrun]
  refine hK _ _ β2 F ?_ fun k hk=>h5 k fun e=>?_
  ·rw[hd,eu]
   exact hS2.put (.c (.ptr _ _ _ h4)) (z0x hE)
  ·rw[e] at hk
   simp[z0N] at hk
 ·simp only[z0N] at hj
  cases hb:Nat.beq j (nk (some d) 0) with
  | true=>
    refine⟨by rw[Nat.eq_of_beq_eq_true hb]; exact ho,?_⟩
    simp[z0N,hb]
  | false=>rw[hb] at hj; exact absurd rfl hj
 ·rw[eu,hd]
  exact hk
theorem z99 {ns b:List Nat} {o:Oper} {j:Nat} {blk:Blk} (hg:o.guard=none) (hdn:o.dst=none) (hb:z0c j b=false)
  (h:∀ τ:St,(∀ x,x ∈ o.op.operands.toList→ox τ x=ox σ x)→τ.hp j=σ.hp j→z8o P E o τ (τ.seth j blk)):z75 P E ops ns o b σ (.c .un) [(j,blk)]:=by
 intro τ hl β F a w hS hn K Q hK
 rw[show Region.wanted o (yielded ops a.tmps)=true by simp[Region.wanted,hg],if_pos rfl]
 obtain⟨w',h1,h2⟩:=h τ hl.ox (hl.hp j hb) β F a w hS
 unfold Oper.wp
 rw[h1]
 refine hK undef w' β F ?_ fun _ _=>rfl
 rw[z5U,hdn]
 rw[hdn] at h2
 exact h2
theorem zfD {own:List Nat} {j:Nat} {blk:Blk} (ho:z0c j own=true) (hne:blk≠ .gone):∀ k,z0N [(j,blk)] k≠none→z0c k own=true∧z0N [(j,blk)] k≠some .gone:=by
 intro k hk
 simp only[z0N] at hk ⊢
 cases hb:Nat.beq k j with
 | true=>rw[Nat.eq_of_beq_eq_true hb]; exact⟨ho,by simpa using hne⟩
 | false=>rw[hb] at hk; exact absurd rfl hk
theorem zrD {ns b own:List Nat} {bs:List (List Nat×List Nat)} {o:Oper} {l:List Oper} {K:St→Prop} {t:TypeId} {x y:Operand} {px py:List Prop} {j off:Nat} {v:Av} {cs xs cs':List Cell} (hop:o.op= .store t x y) (hg:o.guard=none) (hdn:o.dst=none) (hx:ox σ x=(px,.c (.ptr j off))) (hy:ox σ y=(py,v)) (hp:z03 (px++py))
  (hc:σ.hp j= .cells cs) (hxs:z2f v=some xs) (hu:z3G v=false) (h1:P.cellsOf t=xs.length) (h2:(P.info? t).isSome=true) (h3:Nat.ble (off+xs.length) cs.length=true) (hf:z2U (z6X cs off xs) some=some cs') (hb:z0c j b=false) (ho:z0c j own=true)
  (hk:z0a P E ops ns bs l (σ.seth j (.cells cs')) K):z0a P E ops ns ((b,own)::bs) (o::l) σ K:=by
 simp only[z4E,Option.some.injEq] at hf
 subst hf
 refine z5D (z99 hg hdn hb fun τ hox hj=>zaN hop hdn ((hox x (by rw[hop]; simp[Op.operands])).trans hx) ((hox y (by rw[hop]; simp[Op.operands])).trans hy) hp (hj.trans hc) hxs hu ⟨h1,h2,Nat.le_of_ble_eq_true h3⟩) (zfD ho (by simp)) ?_
 rw[z5U,hdn]
 exact hk
end
end Go.Sx

/-
  The layer of abstract states over Code.wp. No condition.
-/
import Derived.WalkKit
import Derived.MapKept
import Derived.Test.YtaagjnlkinojcaaGreatGd
namespace Go.Sx
open Go
inductive Leaf where
 | v (x:Value)
 | ints (k:IntKind) (l:List Int)
 | recs (sz:Nat) (l:List (List Leaf))
 | obj (cs:List Leaf)
inductive Cell where
 | lf (x:Leaf)
 | un
 | own (j sz off len:Nat)
 | ptr (j off:Nat)
 | pel (j sz i k:Nat)
 | tptr (j:Nat) (t:TypeId)
 | town (j off len:Nat) (t:TypeId)
 | map (j:Nat)
 | fn (f:Fn) (first cap:List Cell)
 | bnd (f:Fn) (xs:List Leaf)
inductive Av where
 | c (x:Cell)
 | agg (xs:List Cell)
 | ai (k:IntKind) (l:List Int)
 | tup (xs:List Av)
 | cnd (g:Bool) (x:Av)
inductive Blk where
 | gone
 | cells (cs:List Cell)
 | row (d:Leaf)
 | map (es:List (ByteArray×Leaf))
 | raw (g:Nat) (o:Obj)
 | mapS (g:Nat) (ms:Array MapEntry) (ck:Nat) (es:List (ByteArray×Leaf))
 | fr (vs:List Value) (cs:List Cell)
inductive LfR (F:Nat→Prop) (w:World):Leaf→Value→Prop where
 | v (x:Value) (h:x.oneCell'=true):LfR F w (.v x) x
 | ints (k:IntKind) (l:List Int) (a:Option Addr) (n c:Nat) (hn:n=l.length) (hc:n≤c) (hm:c≤maxLen)
    (h:l≠ []→∃ b o,a=some ⟨b,o,none⟩∧F b∧∀ i x,l[i]? =some x→w.cell? ⟨b,o+i,none⟩=some (.int k x)):LfR F w (.ints k l) (.slice a n c)
 | recs (sz:Nat) (l:List (List Leaf)) (a:Option Addr) (n c:Nat) (vs:Nat→Nat→Value) (hn:n=l.length) (hc:n≤c) (hm:c≤maxLen)
    (hs:∀ r,r ∈ l→r.length=sz)
    (h:l≠ []→∃ b o,a=some ⟨b,o,none⟩∧F b∧∀ i r j x,l[i]? =some r→r[j]? =some x→w.cell? ⟨b,o+i*sz+j,none⟩=some (vs i j))
    (hv:∀ i r j x,l[i]? =some r→r[j]? =some x→LfR F w x (vs i j)):LfR F w (.recs sz l) (.slice a n c)
 | obj (cs:List Leaf) (b o:Nat) (vs:Nat→Value) (hF:F b) (h:∀ j x,cs[j]? =some x→w.cell? ⟨b,o+j,none⟩=some (vs j))
    (hv:∀ j x,cs[j]? =some x→LfR F w x (vs j)):LfR F w (.obj cs) (.pointer (some ⟨b,o,none⟩))
theorem LfR.mono {F F':Nat→Prop} {w w':World} (hF:∀ b,F b→F' b∧w'.heap[b]? =w.heap[b]?) {x:Leaf} {v:Value} (h:LfR F w x v):LfR F' w' x v:=by
 induction h with
 | v x h=>exact .v x h
 | ints k l a n c hn hc hm h=>
   refine .ints k l a n c hn hc hm fun hne=>?_
   obtain⟨b,o,rfl,hb,hx⟩:=h hne
   exact⟨b,o,rfl,(hF b hb).1,fun i x hi=>(World.cell?_of_block (hF b hb).2).trans (hx i x hi)⟩
 | recs sz l a n c vs hn hc hm hs h hv ih=>
   refine .recs sz l a n c vs hn hc hm hs (fun hne=>?_) ih
   obtain⟨b,o,rfl,hb,hx⟩:=h hne
   exact⟨b,o,rfl,(hF b hb).1,fun i r j x hi hj=>(World.cell?_of_block (hF b hb).2).trans (hx i r j x hi hj)⟩
 | obj cs b o vs hb h hv ih=>
   exact .obj cs b o vs (hF b hb).1 (fun j x hj=>(World.cell?_of_block (hF b hb).2).trans (h j x hj)) ih
theorem LfR.one {F:Nat→Prop} {w:World} {x:Leaf} {v:Value} (h:LfR F w x v):v.oneCell'=true:=by
 cases h with
 | v x h=>exact h
 | _=>rfl
def Row (w:World) (g:Nat) (cur:Array Value):Prop:=∃ t fr,w.heap[g]? =some (.cells cur t fr)∧(fr.2=0∨cur.size≤fr.1)
inductive CapIx where
 | sz (n:Nat)
 | tag (t:TypeId)
def z0X (w:World) (g:Nat):CapIx→Prop
 | .sz n=>∃ cur,Row w g cur∧n≤cur.size
 | .tag t=>∃ cur fr,w.heap[g]? =some (.cells cur t fr)
inductive CellR (β:Nat→Option Nat) (F:Nat→Prop) (w:World):Cell→Value→Prop where
 | lf {x:Leaf} {v:Value} (h:LfR F w x v):CellR β F w (.lf x) v
 | un {v:Value} (h:v.oneCell'=true):CellR β F w .un v
 | own (j sz off len:Nat) (a:Option Addr) (c:Nat) (hc:len≤c) (hm:c≤maxLen)
    (h:c=0∨∃ g,β j=some g∧a=some ⟨g,off,none⟩∧z0X w g (.sz (off+c*sz))):CellR β F w (.own j sz off len) (.slice a len c)
 | ptr (j off g:Nat) (h:β j=some g):CellR β F w (.ptr j off) (.pointer (some ⟨g,off,none⟩))
 | pel (j sz i k g:Nat) (h:β j=some g):CellR β F w (.pel j sz i k) (.pointer (some ⟨g,i*sz+k,none⟩))
 | tptr (j:Nat) (t:TypeId) (g:Nat) (h:β j=some g) (ht:z0X w g (.tag t)):CellR β F w (.tptr j t) (.pointer (some ⟨g,0,none⟩))
 | town (j off len:Nat) (t:TypeId) (a:Option Addr) (c:Nat) (hc:len≤c) (hm:c≤maxLen)
    (h:c=0∨∃ g,β j=some g∧a=some ⟨g,off,none⟩∧z0X w g (.sz (off+c))∧z0X w g (.tag t)):CellR β F w (.town j off len t) (.slice a len c)
 | map (j g:Nat) (h:β j=some g):CellR β F w (.map j) (.map (some g))
 | fn (f:Fn) (first cap:List Cell) (fv cv:Array Value) (h1:fv.size=first.length) (h2:cv.size=cap.length)
    (h3:∀(i:Nat) (x:Cell) (v:Value),first[i]? =some x→fv[i]? =some v→CellR β F w x v) (h4:∀(i:Nat) (x:Cell) (v:Value),cap[i]? =some x→cv[i]? =some v→CellR β F w x v):
    CellR β F w (.fn f first cap) (.func f fv cv)
 | bnd (f:Fn) (xs:List Leaf) (cs:Array Value) (h1:cs.size=xs.length) (h:∀(i:Nat) (x:Leaf) (v:Value),xs[i]? =some x→cs[i]? =some v→LfR F w x v):CellR β F w (.bnd f xs) (.func f #[.agg cs] #[])
theorem CellR.one {β:Nat→Option Nat} {F:Nat→Prop} {w:World} {x:Cell} {v:Value} (h:CellR β F w x v):v.oneCell'=true:=by
 cases h with
 | lf h=>exact h.one
 | un h=>exact h
 | _=>rfl
inductive AvR (β:Nat→Option Nat) (F:Nat→Prop) (w:World):Av→Value→Prop where
 | c {x:Cell} {v:Value} (h:CellR β F w x v):AvR β F w (.c x) v
 | any (v:Value):AvR β F w (.c .un) v
 | agg (xs:List Cell) (cs:Array Value) (h1:cs.size=xs.length) (h:∀(i:Nat) (x:Cell) (v:Value),xs[i]? =some x→cs[i]? =some v→CellR β F w x v):AvR β F w (.agg xs) (.agg cs)
 | ai (k:IntKind) (l:List Int):AvR β F w (.ai k l) (.agg (l.map (Value.int k)).toArray)
 | tup (xs:List Av) (cs:Array Value) (h1:cs.size=xs.length) (h:∀(i:Nat) (x:Av) (v:Value),xs[i]? =some x→cs[i]? =some v→AvR β F w x v):AvR β F w (.tup xs) (.tuple cs)
 | cnd (g:Bool) (x:Av) (v:Value) (h:g=true→AvR β F w x v) (h0:g=false→v=undef):AvR β F w (.cnd g x) v
theorem CellR.mono {β β':Nat→Option Nat} {F F':Nat→Prop} {w w':World} (hβ:∀ j g,β j=some g→β' j=some g) (hF:∀ b,F b→F' b∧w'.heap[b]? =w.heap[b]?)
  (hC:∀ g n,z0X w g n→z0X w' g n) {x:Cell} {v:Value} (h:CellR β F w x v):CellR β' F' w' x v:=by
 induction h with
 | lf h=>exact .lf (h.mono hF)
 | un h=>exact .un h
 | own j sz off len a c hc hm h=>
   refine .own j sz off len a c hc hm ?_
   rcases h with h |⟨g,h1,h2,h3⟩
   ·exact .inl h
   ·exact .inr ⟨g,hβ j g h1,h2,hC _ _ h3⟩
 | ptr j off g h=>exact .ptr j off g (hβ j g h)
 | pel j sz i k g h=>exact .pel j sz i k g (hβ j g h)
 | tptr j t g h ht=>exact .tptr j t g (hβ j g h) (hC _ _ ht)
 | map j g h=>exact .map j g (hβ j g h)
 | town j off len t a c hc hm h=>
   refine .town j off len t a c hc hm ?_
   rcases h with h |⟨g,h1,h2,h3,h4⟩
   ·exact .inl h
   ·exact .inr ⟨g,hβ j g h1,h2,hC _ _ h3,hC _ _ h4⟩
 | fn f first cap fv cv h1 h2 h3 h4 ih3 ih4=>exact .fn f first cap fv cv h1 h2 ih3 ih4
 | bnd f xs cs h1 h=>exact .bnd f xs cs h1 fun i x v hx hv=>(h i x v hx hv).mono hF
theorem AvR.mono {β β':Nat→Option Nat} {F F':Nat→Prop} {w w':World} (hβ:∀ j g,β j=some g→β' j=some g) (hF:∀ b,F b→F' b∧w'.heap[b]? =w.heap[b]?)
  (hC:∀ g n,z0X w g n→z0X w' g n) {x:Av} {v:Value} (h:AvR β F w x v):AvR β' F' w' x v:=by
 induction h with
 | c h=>exact .c (h.mono hβ hF hC)
 | any v=>exact .any v
 | agg xs cs h1 h=>exact .agg xs cs h1 fun i x v hx hv=>(h i x v hx hv).mono hβ hF hC
 | ai k l=>exact .ai k l
 | tup xs cs h1 h ih=>exact .tup xs cs h1 ih
 | cnd g x v h h0 ih=>exact .cnd g x v ih h0
def z0p (β:Nat→Option Nat) (F:Nat→Prop) (w:World) (j:Nat):Blk→Prop
 | .gone=>True
 | .cells cs=>∃ g cur,β j=some g∧Row w g cur∧cs.length≤cur.size∧∀(i:Nat) (x:Cell) (v:Value),cs[i]? =some x→cur[i]? =some v→CellR β F w x v
 | .fr vs cs=>∃ g cur,β j=some g∧Row w g cur∧(vs.length+cs.length≤cur.size∧∀(i:Nat) (v:Value),vs[i]? =some v→cur[i]? =some v∧v.oneCell'=true)∧∀(i:Nat) (x:Cell) (v:Value),cs[i]? =some x→cur[vs.length+i]? =some v→CellR β F w x v
 | .row (.ints k l)=>(l= []∧∀ g,β j=some g→z0X w g (.sz 0))∨∃ g cur,β j=some g∧Row w g cur∧∀(i:Nat) (x:Int),l[i]? =some x→cur[i]? =some (Value.int k x)
 | .row (.recs sz l)=>(∀ r,r ∈ l→r.length=sz)∧((l= []∧∀ g,β j=some g→z0X w g (.sz 0))∨∃ g cur,β j=some g∧Row w g cur∧∀ i r k x,l[i]? =some r→r[k]? =some x→∃ v,cur[i*sz+k]? =some v∧LfR F w x v)
 | .row _=>False
 | .map es=>∃ g ms ck,β j=some g∧w.heap[g]? =some (.map ms ck)∧(ms.size=es.length∧Go.MapKept.Stamped ms ck∧(es.map (·.1)).Nodup)∧∀(i:Nat) (k:ByteArray) (x:Leaf),es[i]? =some (k,x)→∃ e,e ∈ ms.toList∧e.key= .string k∧LfR F w x e.val
 | .raw g ob=>β j=some g∧w.heap[g]? =some ob
 | .mapS g ms ck es=>β j=some g∧w.heap[g]? =some (.map ms ck)∧(ms.size=es.length∧Go.MapKept.Stamped ms ck∧(es.map (·.1)).Nodup)∧∀(i:Nat) (k:ByteArray) (x:Leaf),es[i]? =some (k,x)→∃ e,ms[i]? =some e∧e.key= .string k∧LfR F w x e.val
structure St where
 tm:Nat→Av
 hp:Nat→Blk
structure Keep (w0:World) (M:Nat→Prop) (w:World):Prop where
 os:w.os=w0.os
 tape:w.tape=w0.tape
 output:w.output=w0.output
 size:w0.heap.size≤w.heap.size
 block:∀ k,k<w0.heap.size→¬ M k→w.heap[k]? =w0.heap[k]?
 cap:∀ g n,z0X w0 g n→z0X w g n
theorem Keep.refl (w:World) (M:Nat→Prop):Keep w M w:=⟨rfl,rfl,rfl,Nat.le_refl _,fun _ _ _=>rfl,fun _ _ h=>h⟩
theorem Keep.trans {w0 w1 w2:World} {M M' M'':Nat→Prop} (h:Keep w0 M w1) (k:Keep w1 M' w2) (h1:∀ b,M b→M'' b) (h2:∀ b,b<w0.heap.size→M' b→M'' b):Keep w0 M'' w2:=
 ⟨k.os.trans h.os,k.tape.trans h.tape,k.output.trans h.output,Nat.le_trans h.size k.size,
  fun b hb hn=>(k.block b (Nat.lt_of_lt_of_le hb h.size) (fun hm=>hn (h2 b hb hm))).trans (h.block b hb (fun hm=>hn (h1 b hm))),fun g n hc=>k.cap g n (h.cap g n hc)⟩
theorem Keep.below {w0 w:World} (h:Keep w0 (fun _=>False) w):RowKit.Below w0.heap.size w0 w:=
 ⟨h.os,h.tape,h.output,h.size,fun k hk=>h.block k hk (fun h=>h)⟩
def GdK (w:World) (M:Nat→Prop):Prop:=∀ p,p ∈ gdL→¬ M p.1∧∃ t fr,w.heap[p.1]? =some (.cells p.2 t fr)
theorem GdK.keep {w0 w:World} {M M':Nat→Prop} (h:GdK w0 M) (k:Keep w0 M w) (hm:∀ g,M' g→w0.heap.size≤g∨M g):GdK w M':=fun p hp=>by
 obtain⟨h1,t,fr,h2⟩:=h p hp
 have hlt:p.1<w0.heap.size:=by
  rcases Nat.lt_or_ge p.1 w0.heap.size with h3 | h3
  ·exact h3
  ·rw[Array.getElem?_eq_none h3] at h2; cases h2
 exact⟨fun h3=>(hm _ h3).elim (fun h4=>by omega) h1,t,fr,(k.block _ hlt h1).trans h2⟩
structure Env where
 w0:World
 M:Nat→Prop
 F0:Nat→Prop
 n:Nat
 nb:Nat
 β0:Nat→Option Nat
 hM:∀ g,M g→∃ i,i<nb∧β0 i=some g
 gd:GdK w0 M
 hM0:∀ g,M g→F0 g
structure SRb (E:Env) (β:Nat→Option Nat) (F:Nat→Prop) (σ:St) (a:Act) (w:World):Prop where
 tm:∀ i,AvR β F w (σ.tm i) (a.tmps.getD i undef)
 sz:a.tmps.size=E.n
 df:a.defers= []
 hp:∀ j,z0p β F w j (σ.hp j)
 inj:∀ i j g,σ.hp i≠ .gone→σ.hp j≠ .gone→β i=some g→β j=some g→i=j
 own:∀ j g,σ.hp j≠ .gone→β j=some g→g<w.heap.size∧(E.w0.heap.size≤g∨E.M g)∧¬ F g
 lt:∀ j g,β j=some g→g<w.heap.size
 fr:∀ b,F b→b<w.heap.size∧(E.F0 b∨E.w0.heap.size≤b)
 keep:Keep E.w0 E.M w
 bb:∀ i,i<E.nb→β i=E.β0 i
 nbl:E.nb≤64
def SR (E:Env) (σ:St) (a:Act) (w:World):Prop:=∃ β F,SRb E β F σ a w
theorem SRb.gd {E:Env} {β:Nat→Option Nat} {F:Nat→Prop} {σ:St} {a:Act} {w:World} (h:SRb E β F σ a w) {M:Nat→Prop} (hm:∀ g,M g→∃ j,σ.hp j≠ .gone∧β j=some g):GdK w M:=
 E.gd.keep h.keep fun g hg=>by
  obtain⟨j,h1,h2⟩:=hm g hg
  exact(h.own j g h1 h2).2.1
theorem SRb.gd0 {E:Env} {β β':Nat→Option Nat} {F:Nat→Prop} {σ:St} {a:Act} {w:World} (h:SRb E β F σ a w):GdK w (fun g=>∃ i,i<0∧β' i=some g):=h.gd fun g hg=>by
 obtain⟨i,hi,_⟩:=hg
 exact absurd hi (Nat.not_lt_zero _)
def St.set (σ:St) (d:Nat) (x:Av):St:=⟨fun i=>if i=d then x else σ.tm i,σ.hp⟩
def St.seth (σ:St) (j:Nat) (b:Blk):St:=⟨σ.tm,fun i=>if i=j then b else σ.hp i⟩
def St.put (σ:St) (d:Option Nat) (x:Av):St:=match d with | some d=>σ.set d x | none=>σ
end Go.Sx
namespace Go.Sx
open Go
set_option linter.unusedVariables false
def z03:List Prop→Prop
 | []=>True
 | [p]=>p
 | p::q::ps=>p∧z03 (q::ps)
theorem z03.mem:∀ {ps:List Prop},z03 ps→∀ p,p ∈ ps→p
 | [],_,p,hp=>by cases hp
 | [q],h,p,hp=>by rw[List.mem_singleton.1 hp]; exact h
 | q::r::ps,h,p,hp=>by
   cases hp with
   | head=>exact h.1
   | tail _ hp=>exact z03.mem h.2 p hp
theorem z03.left:∀ {ps qs:List Prop},z03 (ps++qs)→z03 ps
 | [],_,_=>trivial
 | [p],[],h=>h
 | [p],_::_,h=>h.1
 | p::q::ps,qs,h=>⟨h.1,z03.left (ps:=q::ps) h.2⟩
theorem z03.right:∀ {ps qs:List Prop},z03 (ps++qs)→z03 qs
 | [],_,h=>h
 | [p],[],_=>trivial
 | [p],_::_,h=>h.2
 | p::q::ps,qs,h=>z03.right (ps:=q::ps) h.2
def z2w (P:Program) (t:TypeId):Bool:=match P.underlying t with | some (.struct _)=>true | some (.array _ _)=>true | _=>false
def zah (v:Value):Av:=
 match v with
 | .agg cs=>if cs.toList.all (·.oneCell') then .agg (cs.toList.map fun x=> .lf (.v x)) else .c .un
 | .tuple _=> .c .un
 | v=> .c (.lf (.v v))
def ev (σ:St):Operand→Av
 | .tmp t=>σ.tm t
 | .const v=>zah v
 | .global _=> .c .un
 | .func f=> .c (.fn (.func f) [] [])
theorem zid (β:Nat→Option Nat) (F:Nat→Prop) (w:World) (v:Value):AvR β F w (zah v) v:=by
 cases v<;>simp only[zah]<;>first
  | exact .c (.lf (.v _ rfl))
  | exact .any _
  | skip
 rename_i cs
 split
 ·rename_i h
  refine .agg _ _ (by simp) fun i x v hx hv=>?_
  simp only[List.getElem?_map,Option.map_eq_some_iff] at hx
  obtain⟨y,hy,rfl⟩:=hx
  have:cs[i]? =some y:=by simpa using hy
  rw[this] at hv
  obtain rfl:=Option.some.inj hv
  exact .lf (.v _ (by
   have:=List.all_eq_true.1 h y (List.mem_of_getElem? hy)
   simpa using this))
 ·exact .any _
theorem SRb.ev {E:Env} {β:Nat→Option Nat} {F:Nat→Prop} {σ:St} {a:Act} {w:World} (h:SRb E β F σ a w) (x:Operand):AvR β F w (ev σ x) (a.eval x):=by
 cases x with
 | tmp t=>exact h.tm t
 | const v=>exact zid β F w v
 | global g=>exact .any _
 | func f=>exact .c (.fn _ _ _ _ _ rfl rfl (fun i x v hx=>by simp at hx) (fun i x v hx=>by simp at hx))
def str:Av→List Prop×Av
 | .cnd g x=>([g=true],x)
 | x=>([],x)
theorem zoS {β:Nat→Option Nat} {F:Nat→Prop} {w:World} {x y:Av} {ps:List Prop} {v:Value} (h:AvR β F w x v) (hs:str x=(ps,y)) (hp:z03 ps):AvR β F w y v:=by
 cases h with
 | cnd g z v h h0=>
   simp only[str,Prod.mk.injEq] at hs
   obtain⟨rfl,rfl⟩:=hs
   exact h hp
 | c h=>simp only[str,Prod.mk.injEq] at hs; obtain⟨_,rfl⟩:=hs; exact .c h
 | any=>simp only[str,Prod.mk.injEq] at hs; obtain⟨_,rfl⟩:=hs; exact .any _
 | agg xs cs h1 h=>simp only[str,Prod.mk.injEq] at hs; obtain⟨_,rfl⟩:=hs; exact .agg xs cs h1 h
 | ai k l=>simp only[str,Prod.mk.injEq] at hs; obtain⟨_,rfl⟩:=hs; exact .ai k l
 | tup xs cs h1 h=>simp only[str,Prod.mk.injEq] at hs; obtain⟨_,rfl⟩:=hs; exact .tup xs cs h1 h
theorem AvR.val {β:Nat→Option Nat} {F:Nat→Prop} {w:World} {u v:Value} (h:AvR β F w (.c (.lf (.v u))) v):v=u:=by
 cases h with
 | c h=>cases h with | lf h=>cases h; rfl
def zbV (nw:Bool) (P:Program) (op:BinOp) (t:TypeId):Value→Value→Option (List Prop×Value)
 | .int k a,.int k' b=>
   match op with
   | .add=>if nw then some ([k=k',k.wrap (a+b)=a+b],.int k (a+b)) else some ([k=k'],.int k (k.wrap (a+b)))
   | .sub=>if nw then some ([k=k',k.wrap (a -b)=a -b],.int k (a -b)) else some ([k=k'],.int k (k.wrap (a -b)))
   | .mul=>if nw then some ([k=k',k.wrap (a*b)=a*b],.int k (a*b)) else some ([k=k'],.int k (k.wrap (a*b)))
   | .quo=>if nw then some ([k=k',b≠0,0≤a,0≤b,k.wrap (a/b)=a/b],.int k (a/b)) else some ([k=k',b≠0],.int k (k.wrap (a.tdiv b)))
   | .rem=>if nw then some ([k=k',b≠0,0≤a],.int k (a%b)) else some ([k=k',b≠0],.int k (a.tmod b))
   | .and=>some ([k=k'],.int k (k.wrap (BitVec.ofInt k.bits a&&& BitVec.ofInt k.bits b).toNat))
   | .or=>some ([k=k'],.int k (k.wrap (BitVec.ofInt k.bits a||| BitVec.ofInt k.bits b).toNat))
   | .xor=>some ([k=k'],.int k (k.wrap (BitVec.ofInt k.bits a^^^BitVec.ofInt k.bits b).toNat))
   | .andNot=>some ([k=k'],.int k (k.wrap (BitVec.ofInt k.bits a&&& ~~~BitVec.ofInt k.bits b).toNat))
   | .shl=>if nw then some ([0≤b,k.wrap (a*2^min b.toNat k.bits)=a*2^min b.toNat k.bits],.int k (a*2^min b.toNat k.bits)) else some ([0≤b],.int k (k.wrap (a*2^min b.toNat k.bits)))
   | .shr=>some ([0≤b],.int k (a/2^min b.toNat k.bits))
   | .eql=>some ([k=k'],.bool (a==b))
   | .neq=>some ([k=k'],.bool (a !=b))
   | .lss=>some ([k=k'],.bool (decide (a<b)))
   | .leq=>some ([k=k'],.bool (decide (a≤b)))
   | .gtr=>some ([k=k'],.bool (decide (b<a)))
   | .geq=>some ([k=k'],.bool (decide (b≤a)))
 | .string a,.string b=>
   match op with
   | .add=>some ([a.size+b.size≤9223372036854775807],.string (a++b))
   | .eql=>some ([],.bool (a.toList==b.toList))
   | .neq=>some ([],.bool (!(a.toList==b.toList)))
   | .lss=>some ([],.bool (Op.bytesLess a.toList b.toList))
   | .leq=>some ([],.bool (Op.bytesLess a.toList b.toList||a.toList==b.toList))
   | .gtr=>some ([],.bool (!(Op.bytesLess a.toList b.toList||a.toList==b.toList)))
   | .geq=>some ([],.bool (!Op.bytesLess a.toList b.toList))
   | _=>none
 | .bool a,.bool b=>
   match op with
   | .eql=>some ([P.underlying t=some .bool],.bool (a==b))
   | .neq=>some ([P.underlying t=some .bool],.bool (!(a==b)))
   | _=>none
 | .pointer none,.pointer none=>
   match op with
   | .eql=>some ([∃ e,P.underlying t=some (.pointer e)],.bool true)
   | .neq=>some ([∃ e,P.underlying t=some (.pointer e)],.bool false)
   | _=>none
 | .slice none 0 0,.slice none 0 0=>
   match op with
   | .eql=>some ([∃ e,P.underlying t=some (.slice e)],.bool true)
   | .neq=>some ([∃ e,P.underlying t=some (.slice e)],.bool false)
   | _=>none
 | _,_=>none
theorem zbW (a:Int) (n:Nat):a.fdiv (2^n)=a/2^n:=Int.fdiv_eq_ediv_of_nonneg _ (by exact_mod_cast Nat.zero_le (2^n))
theorem zbX {P:Program} {t:TypeId} (hp:P.underlying t=some .bool) (w:World) (d:Nat) (a b:Bool):(Op.equalIn (d+1) t (.bool a) (.bool b)).run P w= .ok (a==b) w:=by
 simp[Op.equalIn,run_underlying hp]
theorem zbY {P:Program} {t e:TypeId} (hp:P.underlying t=some (.pointer e)) (w:World) (d:Nat):(Op.equalIn (d+1) t (.pointer none) (.pointer none)).run P w= .ok true w:=by
 simp[Op.equalIn,run_underlying hp]
theorem zbZ {P:Program} {t e:TypeId} (hp:P.underlying t=some (.slice e)) (w:World) (d:Nat):(Op.equalIn (d+1) t (.slice none 0 0) (.slice none 0 0)).run P w= .ok true w:=by
 simp[Op.equalIn,run_underlying hp]
theorem zeX {P:Program} {t:TypeId} (hp:P.underlying t=some .bool) (w:World) (a b:Bool):(Op.equal t (.bool a) (.bool b)).run P w= .ok (a==b) w:=zbX hp w 9999 a b
theorem zeY {P:Program} {t e:TypeId} (hp:P.underlying t=some (.pointer e)) (w:World):(Op.equal t (.pointer none) (.pointer none)).run P w= .ok true w:=zbY hp w 9999
theorem zeZ {P:Program} {t e:TypeId} (hp:P.underlying t=some (.slice e)) (w:World):(Op.equal t (.slice none 0 0) (.slice none 0 0)).run P w= .ok true w:=zbZ hp w 9999
theorem zf0 {nw:Bool} {P:Program} {op:BinOp} {t:TypeId} {u v z:Value} {ps:List Prop} (h:zbV nw P op t u v=some (ps,z)) (hp:z03 ps) (w:World) (x y:Operand):
  (do eqGuard op t x y u v; binOp op t u v:Sem Value).run P w= .ok z w:=by
 unfold zbV at h
 split at h
 · -- ints
   rename_i k a k' b
   have hg:(eqGuard op t x y (.int k a) (.int k' b)).run P w= .ok () w:=by
    cases op<;>simp[eqGuard]
   rw[Sem.run_bind,hg,Result.andThen_ok]
   cases op<;>simp only[Option.some.injEq,Prod.mk.injEq] at h<;>(try (split at h<;>simp only[Option.some.injEq,Prod.mk.injEq] at h))<;>obtain⟨rfl,rfl⟩:=h
   all_goals (simp only[z03] at hp)
   all_goals first
    |(obtain⟨rfl,h1,h2,h3,h4⟩:=hp; simp[binOp,Op.intDiv,h1,Int.tdiv_eq_ediv_of_nonneg h2,h4]; done)
    |(obtain⟨rfl,h1,h2⟩:=hp; simp[binOp,Op.intDiv,h1,Int.tmod_eq_emod_of_nonneg h2]; done)
    |(obtain⟨rfl,h1⟩:=hp; simp[binOp,Op.intArith,Op.intDiv,h1]; done)
    |(obtain⟨h0,h1⟩:=hp; have:¬ b<0:=by omega
      simp[binOp,Op.shift,this,h1]; done)
    |(subst hp; simp[binOp,Op.intArith,Op.intBits,Op.intCmp]; done)
    |(have:¬ b<0:=by omega
      simp[binOp,Op.shift,this,zbW]; done)
 ·rename_i a b
  have hg:(eqGuard op t x y (.string a) (.string b)).run P w= .ok () w:=by
   cases op<;>simp[eqGuard]
  rw[Sem.run_bind,hg,Result.andThen_ok]
  cases op<;>simp only[Option.some.injEq,Prod.mk.injEq,reduceCtorEq] at h<;>obtain⟨rfl,rfl⟩:=h
  all_goals (simp only[z03] at hp)
  all_goals first
   |(have hs:¬ (((a.size+b.size:Nat):Int)>IntKind.i64.max):=by simp[IntKind.max,IntKind.signed,IntKind.bits]; omega
     simp[binOp,Op.stringOp]; simp at hs; omega)
   |(simp[binOp,Op.stringOp]; done)
 ·rename_i a b
  have hg:(eqGuard op t x y (.bool a) (.bool b)).run P w= .ok () w:=by
   cases op<;>simp[eqGuard]
  rw[Sem.run_bind,hg,Result.andThen_ok]
  cases op<;>simp only[Option.some.injEq,Prod.mk.injEq,reduceCtorEq] at h<;>obtain⟨rfl,rfl⟩:=h
  all_goals (simp only[z03] at hp; simp[binOp,zeX hp])
 ·have hg:(eqGuard op t x y (.pointer none) (.pointer none)).run P w= .ok () w:=by
   cases op<;>simp[eqGuard]
  rw[Sem.run_bind,hg,Result.andThen_ok]
  cases op<;>simp only[Option.some.injEq,Prod.mk.injEq,reduceCtorEq] at h<;>obtain⟨rfl,rfl⟩:=h
  all_goals (simp only[z03] at hp; obtain⟨e,hp⟩:=hp; simp[binOp,zeY hp])
 ·have hg:(eqGuard op t x y (.slice none 0 0) (.slice none 0 0)).run P w= .ok () w:=by
   cases op<;>simp[eqGuard]
  rw[Sem.run_bind,hg,Result.andThen_ok]
  cases op<;>simp only[Option.some.injEq,Prod.mk.injEq,reduceCtorEq] at h<;>obtain⟨rfl,rfl⟩:=h
  all_goals (simp only[z03] at hp; obtain⟨e,hp⟩:=hp; simp[binOp,zeZ hp])
 ·cases h
end Go.Sx
namespace Go.Sx
open Go
set_option linter.unusedVariables false
abbrev lv (x:Value):Av:= .c (.lf (.v x))
def zie (x:Bool):List Prop→List Prop
 | []=> []
 | ps=> [x=true→z03 ps]
theorem zc0 {x:Bool} {ps:List Prop} (h:z03 (zie x ps)) (hx:x=true):z03 ps:=by
 cases ps with
 | nil=>trivial
 | cons p ps=>exact h hx
def zf1:List Prop×Av→List Prop×Av→List Prop×Av→Option (List Prop×Av)
 |(pc,.c (.lf (.v (.bool x)))),(pa,.c (.lf (.v (.bool y)))),(pb,.c (.lf (.v (.bool z))))=>some (pc++(zie x pa++zie (!x) pb),lv (.bool (cond x y z)))
 | _,_,_=>none
def zif (nw:Bool) (P:Program) (op:BinOp) (t:TypeId):List Prop×Av→List Prop×Av→Option (List Prop×Av)
 |(p,.c (.lf (.v u))),(q,.c (.lf (.v v)))=>match zbV nw P op t u v with | some (r,z)=>some ((p++q)++r,lv z) | none=>none
 | _,_=>none
def unP (nw:Bool) (op:UnOp):List Prop×Av→Option (List Prop×Av)
 |(p,.c (.lf (.v (.bool b))))=>match op with | .not=>some (p,lv (.bool (!b))) | _=>none
 |(p,.c (.lf (.v (.int k n))))=>
  match op with
  | .neg=>if nw then some (p++ [k.wrap (0 -n)= -n],lv (.int k (-n))) else some (p,lv (.int k (k.wrap (0 -n))))
  | .xor=>some (p,lv (.int k (k.wrap (BitVec.ofInt k.bits (if k.signed then -1 else k.max)^^^BitVec.ofInt k.bits n).toNat)))
  | _=>none
 | _=>none
def zig (nw:Bool) (P:Program) (s d:TypeId):List Prop×Av→Option (List Prop×Av)
 |(p,.c (.lf (.v (.int k n))))=>
  match P.underlying d with
  | some (.int k')=>if nw then some (p++ [(P.underlying s).isSome=true,k'.wrap n=n],lv (.int k' n)) else some (p++ [(P.underlying s).isSome=true],lv (.int k' (k'.wrap n)))
  | _=>none
 | _=>none
def z9v (P:Program) (σ:St) (t:TypeId):List Prop×Av→Option (List Prop×Av)
 |(p,.c (.ptr j off))=>
  match σ.hp j with
  | .cells cs=>
    match z2w P t with
    | true=>some (p++ [off+P.cellsOf t≤cs.length,(P.info? t).isSome=true],.agg ((cs.drop off).take (P.cellsOf t)))
    | false=>match cs[off]? with | some x=>some (p++ [(P.underlying t).isSome=true],.c x) | none=>none
  | .row (.ints k l)=>
    match z2w P t with
    | true=>some (p++ [off=0,P.cellsOf t=l.length,l≠ []],.ai k l)
    | false=>some (p++ [off<l.length,(P.underlying t).isSome=true],lv (.int k (l.getD off 0)))
  | _=>none
 |(p,.c (.lf (.obj cs)))=>
  match z2w P t with
  | true=>some (p++ [P.cellsOf t≤cs.length,(P.info? t).isSome=true],.agg ((cs.take (P.cellsOf t)).map Cell.lf))
  | false=>match cs with | x::_=>some (p++ [(P.underlying t).isSome=true],.c (.lf x)) | []=>none
 | _=>none
def zih:List Prop×Av→Option (List Prop×Av)
 |(p,.c (.ptr j off))=>some (p,.c (.ptr j off))
 |(p,.c (.pel j sz i k))=>some (p,.c (.pel j sz i k))
 |(p,.c (.lf (.obj cs)))=>some (p,.c (.lf (.obj cs)))
 | _=>none
def zc1 (P:Program) (s:TypeId) (f:Nat):List Prop×Av→Option (List Prop×Av)
 |(p,x)=>
  match P.underlying s with
  | some (.struct fs)=>
    match fs[f]? with
    | some fd=>
      match x with
      | .c (.ptr j off)=>some (p++ [P.cellsOf fd.type≠0],.c (.ptr j (off+fd.offset)))
      | .c (.lf (.obj cs))=>some (p++ [P.cellsOf fd.type≠0],.c (.lf (.obj (cs.drop fd.offset))))
      | .c (.pel j sz i k)=>some (p++ [P.cellsOf fd.type≠0],.c (.pel j sz i (k+fd.offset)))
      | _=>none
    | none=>none
  | _=>none
theorem z0M {P:Program} {t:TypeId} (h:(P.info? t).isSome=true) (w:World):(sizeOf t).run P w= .ok (P.cellsOf t) w:=by
 obtain⟨i,hi⟩:=Option.isSome_iff_exists.1 h
 simp[sizeOf,typeInfo,hi,Program.cellsOf]
theorem z0J {P:Program} {t:TypeId} (h:P.cellsOf t≠0):(P.info? t).isSome=true:=by
 cases hi:P.info? t with
 | none=>simp[Program.cellsOf,hi] at h
 | some i=>rfl
theorem z1Q {P:Program} {t:TypeId} (h:(P.underlying t).isSome=true) (w:World):(isAgg t).run P w= .ok (z2w P t) w:=by
 obtain⟨d,hd⟩:=Option.isSome_iff_exists.1 h
 unfold isAgg
 rw[Sem.run_bind,run_underlying hd]
 cases d<;>simp[z2w,hd]
theorem z5h {P:Program} {t:TypeId} (h:z2w P t=true):(P.underlying t).isSome=true:=by
 cases hd:P.underlying t with
 | none=>simp[z2w,hd] at h
 | some d=>rfl
theorem z0D (b o j:Nat):(⟨b,o,none⟩:Addr).add j=⟨b,o+j,none⟩:=by unfold Addr.add; split<;>simp_all
theorem Row.cell {w:World} {g:Nat} {cur:Array Value} (h:Row w g cur) (j:Nat):w.cell? ⟨g,j,none⟩=cur[j]?:=by
 obtain⟨t,fr,h,_⟩:=h
 exact cell_of_row w g j cur t fr h
theorem zdE {P:Program} {w:World} {β:Nat→Option Nat} {F:Nat→Prop} {c a b:List Prop×Av} {vc va vb:Value} {ps:List Prop} {x:Av} (h:zf1 c a b=some (ps,x)) (hp:z03 ps)
  (hc:z03 c.1→AvR β F w c.2 vc) (ha:z03 a.1→AvR β F w a.2 va) (hb:z03 b.1→AvR β F w b.2 vb):∃ z,(do pure (Next.value (if ←asBool vc then va else vb)):Sem Next).run P w= .ok (.value z) w∧AvR β F w x z:=by
 obtain⟨pc,xc⟩:=c; obtain⟨pa,xa⟩:=a; obtain⟨pb,xb⟩:=b
 unfold zf1 at h
 split at h
 ·rename_i pc x pa y pb z h1 h2 h3
  simp only[Prod.mk.injEq] at h1 h2 h3
  obtain⟨rfl,rfl⟩:=h1; obtain⟨rfl,rfl⟩:=h2; obtain⟨rfl,rfl⟩:=h3
  simp only[Option.some.injEq,Prod.mk.injEq] at h
  obtain⟨rfl,rfl⟩:=h
  obtain rfl:=(hc hp.left).val
  have hr:=hp.right
  cases x with
  | true=>
    obtain rfl:=(ha (zc0 hr.left rfl)).val
    exact⟨_,by simp[asBool],.c (.lf (.v _ rfl))⟩
  | false=>
    obtain rfl:=(hb (zc0 hr.right rfl)).val
    exact⟨_,by simp[asBool],.c (.lf (.v _ rfl))⟩
 ·cases h
theorem zii {nw:Bool} {P:Program} {op:BinOp} {t:TypeId} {u v z:Value} {ps:List Prop} (h:zbV nw P op t u v=some (ps,z)):z.oneCell'=true:=by
 unfold zbV at h
 (repeat' split at h)<;>first |(cases h; done) |(simp only[Option.some.injEq,Prod.mk.injEq] at h; obtain⟨_,rfl⟩:=h; rfl)
theorem zf2 {nw:Bool} {P:Program} {w:World} {op:BinOp} {t:TypeId} {β:Nat→Option Nat} {F:Nat→Prop} {a b:List Prop×Av} {va vb:Value} {ps:List Prop} {x:Av} (h:zif nw P op t a b=some (ps,x)) (hp:z03 ps)
  (ha:z03 a.1→AvR β F w a.2 va) (hb:z03 b.1→AvR β F w b.2 vb) (ox oy:Operand):∃ z,(do eqGuard op t ox oy va vb; binOp op t va vb:Sem Value).run P w= .ok z w∧AvR β F w x z:=by
 obtain⟨pa,xa⟩:=a; obtain⟨pb,xb⟩:=b
 unfold zif at h
 split at h
 ·rename_i p u q v h1 h2
  simp only[Prod.mk.injEq] at h1 h2
  obtain⟨rfl,rfl⟩:=h1; obtain⟨rfl,rfl⟩:=h2
  split at h
  ·rename_i r z hz
   simp only[Option.some.injEq,Prod.mk.injEq] at h
   obtain⟨rfl,rfl⟩:=h
   obtain rfl:=(ha hp.left.left).val
   obtain rfl:=(hb hp.left.right).val
   exact⟨_,zf0 hz hp.right w ox oy,.c (.lf (.v _ (zii hz)))⟩
  ·cases h
 ·cases h
theorem zgf {nw:Bool} {P:Program} {w:World} {op:UnOp} {β:Nat→Option Nat} {F:Nat→Prop} {a:List Prop×Av} {va:Value} {ps:List Prop} {x:Av} (h:unP nw op a=some (ps,x)) (hp:z03 ps)
  (ha:z03 a.1→AvR β F w a.2 va):∃ z,(Op.unary op va).run P w= .ok z w∧AvR β F w x z:=by
 obtain⟨pa,xa⟩:=a
 unfold unP at h
 split at h
 ·rename_i p b h1
  simp only[Prod.mk.injEq] at h1
  obtain⟨rfl,rfl⟩:=h1
  cases op with
  | not=>
    simp only[Option.some.injEq,Prod.mk.injEq] at h
    obtain⟨rfl,rfl⟩:=h
    obtain rfl:=(ha hp).val
    exact⟨_,by simp[Op.unary],.c (.lf (.v _ rfl))⟩
  | neg=>cases h
  | xor=>cases h
  | plus=>cases h
 ·rename_i p k n h1
  simp only[Prod.mk.injEq] at h1
  obtain⟨rfl,rfl⟩:=h1
  cases op with
  | neg=>
    dsimp only at h
    split at h<;>(simp only[Option.some.injEq,Prod.mk.injEq] at h; obtain⟨rfl,rfl⟩:=h)
    ·obtain rfl:=(ha hp.left).val
     have h2:k.wrap (0 -n)= -n:=hp.right
     exact⟨_,by simp only[Op.unary,Op.intArith,h2]; rfl,.c (.lf (.v _ rfl))⟩
    ·obtain rfl:=(ha hp).val
     exact⟨_,by simp only[Op.unary,Op.intArith]; rfl,.c (.lf (.v _ rfl))⟩
  | xor=>
    dsimp only at h
    simp only[Option.some.injEq,Prod.mk.injEq] at h
    obtain⟨rfl,rfl⟩:=h
    obtain rfl:=(ha hp).val
    exact⟨_,by simp only[Op.unary,Op.intBits]; rfl,.c (.lf (.v _ rfl))⟩
  | not=>cases h
  | plus=>cases h
 ·cases h
theorem zf3 {nw:Bool} {P:Program} {w:World} {s d:TypeId} {β:Nat→Option Nat} {F:Nat→Prop} {a:List Prop×Av} {va:Value} {ps:List Prop} {x:Av} (h:zig nw P s d a=some (ps,x)) (hp:z03 ps)
  (ha:z03 a.1→AvR β F w a.2 va):∃ z,(convert s d va).run P w= .ok z w∧AvR β F w x z:=by
 obtain⟨pa,xa⟩:=a
 unfold zig at h
 split at h
 ·rename_i p k n h1
  simp only[Prod.mk.injEq] at h1
  obtain⟨rfl,rfl⟩:=h1
  split at h
  ·rename_i k' hd
   split at h<;>simp only[Option.some.injEq,Prod.mk.injEq] at h<;>obtain⟨rfl,rfl⟩:=h
   ·obtain rfl:=(ha hp.left).val
    have hr:=hp.right
    obtain⟨ds,hs⟩:=Option.isSome_iff_exists.1 hr.1
    have h2:k'.wrap n=n:=hr.2
    exact⟨_,by simp[convert,run_underlying hs,run_underlying hd,Conv.intToInt,h2],.c (.lf (.v _ rfl))⟩
   ·obtain rfl:=(ha hp.left).val
    have hr:=hp.right
    obtain⟨ds,hs⟩:=Option.isSome_iff_exists.1 hr
    exact⟨_,by simp[convert,run_underlying hs,run_underlying hd,Conv.intToInt],.c (.lf (.v _ rfl))⟩
  ·cases h
 ·cases h
theorem z29 {P:Program} {w:World} {b o:Nat} {cs:List Value} (h:∀(j:Nat) (v:Value),cs[j]? =some v→w.cell? ⟨b,o+j,none⟩=some v) {n:Nat} (hn:n=cs.length):(loadCells ⟨b,o,none⟩ n).run P w= .ok cs.toArray w:=by
 subst hn
 exact run_loadCells_list w ⟨b,o,none⟩ cs fun j v hv=>by rw[z0D]; exact h j v hv
theorem z8P {P:Program} {E:Env} {σ:St} {a:Act} {w:World} {t:TypeId} {β:Nat→Option Nat} {F:Nat→Prop} {x:List Prop×Av} {v:Value} {ps:List Prop} {y:Av} (h:z9v P σ t x=some (ps,y)) (hp:z03 ps)
  (hS:SRb E β F σ a w) (hx:z03 x.1→AvR β F w x.2 v):∃ z,(Instr.loadAt t v).run P w= .ok z w∧AvR β F w y z:=by
 obtain⟨p,x⟩:=x
 unfold z9v at h
 split at h
 ·rename_i p' j off h1
  simp only[Prod.mk.injEq] at h1
  obtain⟨rfl,rfl⟩:=h1
  split at h
  · -- cells
    rename_i cs hb
    have hB:=hS.hp j
    rw[hb] at hB
    obtain⟨g,cur,hg,hrow,hsz,hcs⟩:=hB
    split at h
    ·rename_i htg
     simp only[Option.some.injEq,Prod.mk.injEq] at h
     obtain⟨rfl,rfl⟩:=h
     have hr:=hp.right
     have hv:=hx hp.left
     cases hv with | c hv=>cases hv with | ptr _ _ g' hg'=>
     rw[hg] at hg'
     obtain rfl:=Option.some.inj hg'
     have hlen:off+P.cellsOf t≤cur.size:=Nat.le_trans hr.1 hsz
     have hl:=z29 (P:=P) (w:=w) (b:=g) (o:=off) (cs:=(cur.toList.drop off).take (P.cellsOf t)) (n:=P.cellsOf t) (fun i u hu=>by
      rw[hrow.cell]
      rw[List.getElem?_take] at hu
      split at hu
      ·simpa using hu
      ·cases hu) (by simp; omega)
     refine⟨.agg ((cur.toList.drop off).take (P.cellsOf t)).toArray,?_,?_⟩
     ·simp only[Instr.loadAt,Instr.sureAddr,loadVar,Sem.run_bind,Sem.run_pure,Result.andThen_ok,z1Q (z5h htg),htg,if_true,Sem.run_ite,z0M hr.2,hl]
     ·refine .agg _ _ (by have:=hr.1; simp; omega) fun i x u hxi hui=>?_
      rw[List.getElem?_take] at hxi
      split at hxi
      ·rename_i hlt
       rw[List.getElem?_drop] at hxi
       refine hcs (off+i) x u hxi ?_
       simp only[List.getElem?_toArray,List.getElem?_take,hlt,if_true,List.getElem?_drop] at hui
       simpa using hui
      ·cases hxi
    ·rename_i htg
     split at h
     ·rename_i x hxo
      simp only[Option.some.injEq,Prod.mk.injEq] at h
      obtain⟨rfl,rfl⟩:=h
      have hr:(P.underlying t).isSome=true:=hp.right
      have hv:=hx hp.left
      cases hv with | c hv=>cases hv with | ptr _ _ g' hg'=>
      rw[hg] at hg'
      obtain rfl:=Option.some.inj hg'
      have hlt:off<cur.size:=Nat.lt_of_lt_of_le (List.getElem?_eq_some_iff.1 hxo).1 hsz
      have hcell:w.cell? ⟨g,off,none⟩=some cur[off]:=by rw[hrow.cell]; simp[hlt]
      refine⟨cur[off],?_,.c (hcs off x _ hxo (by simp[hlt]))⟩
      simp only[Instr.loadAt,Instr.sureAddr,loadVar,Sem.run_bind,Sem.run_pure,Result.andThen_ok,z1Q hr,htg,Sem.run_ite,run_load,hcell]
      rfl
     ·cases h
  · -- a row of numbers
    rename_i k l hb
    have hB:=hS.hp j
    rw[hb] at hB
    split at h
    ·rename_i htg
     simp only[Option.some.injEq,Prod.mk.injEq] at h
     obtain⟨rfl,rfl⟩:=h
     obtain⟨rfl,hsz,hne⟩:=hp.right
     have hv:=hx hp.left
     cases hv with | c hv=>cases hv with | ptr _ _ g' hg'=>
     rcases hB with ⟨h0,_⟩ |⟨g,cur,hg,hrow,hcs⟩
     ·exact absurd h0 hne
     ·rw[hg] at hg'
      obtain rfl:=Option.some.inj hg'
      have hl:=z29 (P:=P) (w:=w) (b:=g) (o:=0) (cs:=l.map (Value.int k)) (n:=P.cellsOf t) (fun i u hu=>by
       rw[List.getElem?_map,Option.map_eq_some_iff] at hu
       obtain⟨z,hz,rfl⟩:=hu
       rw[hrow.cell]
       simpa using hcs i z hz) (by simp; omega)
      have hi:(P.info? t).isSome=true:=z0J (by rw[hsz]; intro h0; exact hne (List.eq_nil_of_length_eq_zero h0))
      refine⟨_,?_,.ai k l⟩
      simp only[Instr.loadAt,Instr.sureAddr,loadVar,Sem.run_bind,Sem.run_pure,Result.andThen_ok,z1Q (z5h htg),htg,if_true,Sem.run_ite,z0M hi,hl]
    ·rename_i htg
     simp only[Option.some.injEq,Prod.mk.injEq] at h
     obtain⟨rfl,rfl⟩:=h
     obtain⟨hlt,hr⟩:=hp.right
     have hv:=hx hp.left
     cases hv with | c hv=>cases hv with | ptr _ _ g' hg'=>
     rcases hB with ⟨h0,_⟩ |⟨g,cur,hg,hrow,hcs⟩
     ·subst h0; simp at hlt
     ·rw[hg] at hg'
      obtain rfl:=Option.some.inj hg'
      have hcell:w.cell? ⟨g,off,none⟩=some (.int k (l.getD off 0)):=by rw[hrow.cell]; exact hcs off _ (by simp[hlt])
      refine⟨_,?_,.c (.lf (.v _ rfl))⟩
      simp only[Instr.loadAt,Instr.sureAddr,loadVar,Sem.run_bind,Sem.run_pure,Result.andThen_ok,z1Q hr,htg,Sem.run_ite,run_load,hcell]
      rfl
  ·cases h
 ·rename_i p' cs h1
  simp only[Prod.mk.injEq] at h1
  obtain⟨rfl,rfl⟩:=h1
  split at h
  ·rename_i htg
   simp only[Option.some.injEq,Prod.mk.injEq] at h
   obtain⟨rfl,rfl⟩:=h
   obtain⟨hle,hi⟩:=hp.right
   have hv:=hx hp.left
   cases hv with | c hv=>cases hv with | lf hv=>cases hv with | obj _ b o vs hF hc hv=>
   have hl:=z29 (P:=P) (w:=w) (b:=b) (o:=o) (cs:=(List.range (P.cellsOf t)).map vs) (n:=P.cellsOf t) (fun i u hu=>by
    rw[List.getElem?_map,Option.map_eq_some_iff] at hu
    obtain⟨z,hz,rfl⟩:=hu
    have hz':=List.getElem?_eq_some_iff.1 hz
    obtain⟨hlt,hz'⟩:=hz'
    simp at hlt hz'
    subst hz'
    have:i<cs.length:=by omega
    exact hc i cs[i] (by simp[this])) (by simp)
   refine⟨.agg ((List.range (P.cellsOf t)).map vs).toArray,by simp only[Instr.loadAt,Instr.sureAddr,loadVar,Sem.run_bind,Sem.run_pure,Result.andThen_ok,z1Q (z5h htg),htg,if_true,Sem.run_ite,z0M hi,hl],?_⟩
   refine .agg _ _ (by simp; omega) fun i x u hxi hui=>?_
   rw[List.getElem?_map,Option.map_eq_some_iff] at hxi
   obtain⟨y,hy,rfl⟩:=hxi
   rw[List.getElem?_take] at hy
   split at hy
   ·rename_i hlt
    simp[hlt] at hui
    subst hui
    exact .lf (hv i y hy)
   ·cases hy
  ·rename_i htg
   split at h
   ·rename_i x xs
    simp only[Option.some.injEq,Prod.mk.injEq] at h
    obtain⟨rfl,rfl⟩:=h
    have hr:(P.underlying t).isSome=true:=hp.right
    have hv:=hx hp.left
    cases hv with | c hv=>cases hv with | lf hv=>cases hv with | obj _ b o vs hF hc hv=>
    have hcell:w.cell? ⟨b,o,none⟩=some (vs 0):=by simpa using hc 0 x rfl
    refine⟨vs 0,?_,.c (.lf (hv 0 x rfl))⟩
    simp only[Instr.loadAt,Instr.sureAddr,loadVar,Sem.run_bind,Sem.run_pure,Result.andThen_ok,z1Q hr,htg,Sem.run_ite,run_load,hcell]
    rfl
   ·cases h
 ·cases h
theorem zf4 {P:Program} {o:Oper} {ρ:Operand→Value} {w:World} {β:Nat→Option Nat} {F:Nat→Prop} {x:List Prop×Av} {ox:Operand} {ps:List Prop} {y:Av} (h:zih x=some (ps,y)) (hp:z03 ps)
  (hx:z03 x.1→AvR β F w x.2 (ρ ox)) (ho:o.op= .nilCheck ox):∃ z,(execOp ρ o).run P w= .ok (.value z) w∧AvR β F w y z:=by
 obtain⟨p,x⟩:=x
 unfold zih at h
 split at h
 ·rename_i h1
  simp only[Prod.mk.injEq] at h1; obtain⟨rfl,rfl⟩:=h1
  simp only[Option.some.injEq,Prod.mk.injEq] at h; obtain⟨rfl,rfl⟩:=h
  have hv:=hx hp
  generalize hvv:ρ ox=v at hv
  dsimp only at hv
  have hv':=hv
  cases hv with | c hv=>cases hv with | ptr _ _ g' hg'=>
  exact⟨_,by simp[execOp,ho,hvv],hv'⟩
 ·rename_i h1
  simp only[Prod.mk.injEq] at h1; obtain⟨rfl,rfl⟩:=h1
  simp only[Option.some.injEq,Prod.mk.injEq] at h; obtain⟨rfl,rfl⟩:=h
  have hv:=hx hp
  generalize hvv:ρ ox=v at hv
  dsimp only at hv
  have hv':=hv
  cases hv with | c hv=>cases hv with | pel _ _ _ _ g' hg'=>
  exact⟨_,by simp[execOp,ho,hvv],hv'⟩
 ·rename_i h1
  simp only[Prod.mk.injEq] at h1; obtain⟨rfl,rfl⟩:=h1
  simp only[Option.some.injEq,Prod.mk.injEq] at h; obtain⟨rfl,rfl⟩:=h
  have hv:=hx hp
  generalize hvv:ρ ox=v at hv
  dsimp only at hv
  have hv':=hv
  cases hv with | c hv=>cases hv with | lf hv=>cases hv with | obj=>
  exact⟨_,by simp[execOp,ho,hvv],hv'⟩
 ·cases h
theorem zc2 {P:Program} {w:World} {s:TypeId} {f:Nat} {β:Nat→Option Nat} {F:Nat→Prop} {x:List Prop×Av} {v:Value} {ps:List Prop} {y:Av} (h:zc1 P s f x=some (ps,y)) (hp:z03 ps)
  (hx:z03 x.1→AvR β F w x.2 v):∃ z,(Instr.fieldAt s v f).run P w= .ok z w∧AvR β F w y z:=by
 obtain⟨p,x⟩:=x
 unfold zc1 at h
 dsimp only at h hx
 split at h
 ·rename_i fs hs
  split at h
  ·rename_i fd hfd
   have key:∀(b o:Nat),P.cellsOf fd.type≠0→v= .pointer (some ⟨b,o,none⟩)→(Instr.fieldAt s v f).run P w= .ok (.pointer (some ⟨b,o+fd.offset,none⟩)) w:=by
    intro b o hne hv
    subst hv
    simp[Instr.fieldAt,run_underlying hs,hfd,Instr.sureAddr,fieldPlace,z0M (z0J hne),hne,z0D]
   split at h
   ·simp only[Option.some.injEq,Prod.mk.injEq] at h; obtain⟨rfl,rfl⟩:=h
    have hv:=hx hp.left
    cases hv with | c hv=>cases hv with | ptr _ off g' hg'=>
    exact⟨_,key _ _ hp.right rfl,.c (.ptr _ _ _ hg')⟩
   ·simp only[Option.some.injEq,Prod.mk.injEq] at h; obtain⟨rfl,rfl⟩:=h
    have hv:=hx hp.left
    cases hv with | c hv=>cases hv with | lf hv=>cases hv with | obj cs b o vs hF hc hv=>
    refine⟨_,key _ _ hp.right rfl,.c (.lf (.obj _ b (o+fd.offset) (fun j=>vs (fd.offset+j)) hF (fun j x hj=>?_) (fun j x hj=>?_)))⟩
    ·rw[List.getElem?_drop] at hj
     rw[Nat.add_assoc]; exact hc _ x hj
    ·rw[List.getElem?_drop] at hj
     exact hv _ x hj
   ·simp only[Option.some.injEq,Prod.mk.injEq] at h; obtain⟨rfl,rfl⟩:=h
    have hv:=hx hp.left
    cases hv with | c hv=>cases hv with | pel _ sz i k g' hg'=>
    exact⟨_,key _ _ hp.right rfl,.c (by rw[Nat.add_assoc]; exact .pel _ _ _ _ _ hg')⟩
   ·cases h
  ·cases h
 ·cases h
def zc3 (P:Program) (σ:St) (t:TypeId):List Prop×Av→List Prop×Av→Option (List Prop×Av)
 |(p,x),(q,.c (.lf (.v (.int ki i))))=>
  match P.underlying t with
  | some (.slice e)=>
    match x with
    | .c (.lf (.ints k l))=>some ((p++q)++ [0≤i,i<(l.length:Int),P.cellsOf e=1],.c (.lf (.obj [.v (.int k (l.getD i.toNat 0))])))
    | .c (.own j sz off len)=>
      match sz with
      | 1=>some ((p++q)++ [0≤i,i<(len:Int),P.cellsOf e=1],.c (.ptr j (off+i.toNat)))
      | _=>some ((p++q)++ [0≤i,i<(len:Int),P.cellsOf e=sz,off=0,sz≠0],.c (.pel j sz i.toNat 0))
    | _=>none
  | some (.array n e)=>
    match x with
    | .c (.ptr j off)=>some ((p++q)++ [0≤i,i<(n:Int),P.cellsOf e=1],.c (.ptr j (off+i.toNat)))
    | _=>none
  | _=>none
 | _,_=>none
theorem zc4 {P:Program} {σ:St} {w:World} {t:TypeId} {β:Nat→Option Nat} {F:Nat→Prop} {x q:List Prop×Av} {v u:Value} {ps:List Prop} {y:Av} (h:zc3 P σ t x q=some (ps,y)) (hp:z03 ps)
  (hx:z03 x.1→AvR β F w x.2 v) (hq:z03 q.1→AvR β F w q.2 u):∃ z,(Instr.indexAt t v u).run P w= .ok z w∧AvR β F w y z:=by
 obtain⟨p,x⟩:=x
 unfold zc3 at h
 split at h
 ·rename_i p' x' q' ki i h1
  simp only[Prod.mk.injEq] at h1
  obtain⟨rfl,rfl⟩:=h1
  split at h
  ·rename_i e ht
   split at h
   ·rename_i k l
    simp only[Option.some.injEq,Prod.mk.injEq] at h; obtain⟨rfl,rfl⟩:=h
    obtain rfl:=(hq hp.left.right).val
    obtain⟨h0,h1,h2⟩:=hp.right
    have hv:=hx hp.left.left
    cases hv with | c hv=>cases hv with | lf hv=>cases hv with | ints _ _ a n c hn hc hm hh=>
    subst hn
    have hlt:i.toNat<l.length:=by omega
    obtain⟨b,o,rfl,hF,hcell⟩:=hh (by intro h; subst h; simp at hlt)
    have hi:(P.info? e).isSome=true:=z0J (by rw[show P.cellsOf e=1 from h2]; decide)
    refine⟨.pointer (some ⟨b,o+i.toNat,none⟩),?_,.c (.lf (.obj _ _ _ (fun _=> .int k (l.getD i.toNat 0)) hF (fun j x hj=>?_) (fun j x hj=>?_)))⟩
    ·have h3:P.cellsOf e=1:=h2
     simp[Instr.indexAt,asIntOf,run_underlying ht,h0,h1,z0M hi,h3,z0D]
    ·match j,hj with
     | 0,hj=>exact hcell _ _ (by simp[hlt])
    ·match j,hj with
     | 0,hj=>simp at hj; subst hj; simpa[hlt] using LfR.v (F:=F) (w:=w) (.int k (l.getD i.toNat 0)) rfl
   ·rename_i j sz off len
    split at h
    ·simp only[Option.some.injEq,Prod.mk.injEq] at h; obtain⟨rfl,rfl⟩:=h
     obtain rfl:=(hq hp.left.right).val
     obtain⟨h0,h1,h2⟩:=hp.right
     have hv:=hx hp.left.left
     cases hv with | c hv=>cases hv with | own _ _ _ _ a c hc hm hh=>
     rcases hh with rfl |⟨g,hg,rfl,hcap⟩
     ·omega
     ·have h3:P.cellsOf e=1:=h2
      have hi:(P.info? e).isSome=true:=z0J (by rw[h3]; decide)
      exact⟨.pointer (some ⟨g,off+i.toNat,none⟩),by simp[Instr.indexAt,asIntOf,run_underlying ht,h0,h1,z0M hi,h3,z0D],.c (.ptr _ _ _ hg)⟩
    ·rename_i hsz
     simp only[Option.some.injEq,Prod.mk.injEq] at h; obtain⟨rfl,rfl⟩:=h
     obtain rfl:=(hq hp.left.right).val
     obtain⟨h0,h1,h2,h3,h4⟩:=hp.right
     have hv:=hx hp.left.left
     cases hv with | c hv=>cases hv with | own _ _ _ _ a c hc hm hh=>
     rcases hh with rfl |⟨g,hg,rfl,hcap⟩
     ·omega
     ·have h4':sz≠0:=h4
      have hi:(P.info? e).isSome=true:=z0J (by rw[h2]; exact h4')
      subst h3
      exact⟨.pointer (some ⟨g,i.toNat*sz+0,none⟩),by simp[Instr.indexAt,asIntOf,run_underlying ht,h0,h1,z0M hi,h2,z0D],.c (.pel _ _ _ _ _ hg)⟩
   ·cases h
  ·rename_i n e ht
   split at h
   ·rename_i j off
    simp only[Option.some.injEq,Prod.mk.injEq] at h; obtain⟨rfl,rfl⟩:=h
    obtain rfl:=(hq hp.left.right).val
    obtain⟨h0,h1,h2⟩:=hp.right
    have hv:=hx hp.left.left
    cases hv with | c hv=>cases hv with | ptr _ _ g hg=>
    have h3:P.cellsOf e=1:=h2
    have hi:(P.info? e).isSome=true:=z0J (by rw[h3]; decide)
    exact⟨.pointer (some ⟨g,off+i.toNat,none⟩),by simp[Instr.indexAt,Instr.sureAddr,asIntOf,run_underlying ht,h0,h1,z0M hi,h3,z0D],.c (.ptr _ _ _ hg)⟩
   ·cases h
  ·cases h
 ·cases h
end Go.Sx
namespace Go.Sx
open Go
set_option linter.unusedVariables false
def Bd (o:Option Value) (d n:Nat):Prop:=(o=none∧n=d)∨∃ k i,o=some (.int k i)∧0≤i∧n=i.toNat
theorem z6R {P:Program} {w:World} {s:Bool} {len cap l h m:Nat} {lo hi mx:Option Value} (hm:Bd mx cap m) (hmc:m≤cap) (hh:Bd hi len h) (hhm:h≤m) (hl:Bd lo 0 l) (hlh:l≤h)
  (hx:mx.isSome=true→hi.isSome=true):(Instr.sliceBounds s len cap lo hi mx).run P w= .ok (l,h,m) w:=by
 have b1:∀(k:IntKind) (i:Int) (y:Nat) (c:BoundsCode),0≤i→i.toNat≤y→(Instr.sliceBound (.int k i) y c).run P w= .ok i.toNat w:=by
  intro k i y c h0 h1
  have:i≤(y:Int):=by omega
  simp[Instr.sliceBound,asIntOf,h0,this]
 rcases hm with ⟨rfl,rfl⟩ |⟨km,im,rfl,hm0,rfl⟩
 ·rcases hh with ⟨rfl,rfl⟩ |⟨kh,ih,rfl,hh0,rfl⟩
  ·rcases hl with ⟨rfl,rfl⟩ |⟨kl,il,rfl,hl0,rfl⟩
   ·simp[Instr.sliceBounds]
   ·simp[Instr.sliceBounds,b1 kl il _ _ hl0 hlh]
  ·rcases hl with ⟨rfl,rfl⟩ |⟨kl,il,rfl,hl0,rfl⟩
   ·simp[Instr.sliceBounds,b1 kh ih _ _ hh0 hhm]
   ·simp[Instr.sliceBounds,b1 kh ih _ _ hh0 hhm,b1 kl il _ _ hl0 hlh]
 ·rcases hh with ⟨rfl,rfl⟩ |⟨kh,ih,rfl,hh0,rfl⟩
  ·simp at hx
  ·rcases hl with ⟨rfl,rfl⟩ |⟨kl,il,rfl,hl0,rfl⟩
   ·simp[Instr.sliceBounds,b1 km im _ _ hm0 hmc,b1 kh ih _ _ hh0 hhm]
   ·simp[Instr.sliceBounds,b1 km im _ _ hm0 hmc,b1 kh ih _ _ hh0 hhm,b1 kl il _ _ hl0 hlh]
theorem z5v {P:Program} {w:World} {t e:TypeId} {a:Option Addr} {len cap l h m:Nat} {lo hi mx:Option Value} (ht:P.underlying t=some (.slice e)) (hi':(P.info? e).isSome=true)
  (hm:Bd mx cap m) (hmc:m≤cap) (hh:Bd hi len h) (hhm:h≤m) (hl:Bd lo 0 l) (hlh:l≤h) (hx:mx.isSome=true→hi.isSome=true):
  (Instr.sliceAt t (.slice a len cap) lo hi mx).run P w= .ok (.slice (if m=l then a else a.map (·.add (l*P.cellsOf e))) (h -l) (m -l)) w:=by
 simp[Instr.sliceAt,Instr.slice,run_underlying ht,z6R hm hmc hh hhm hl hlh hx,z0M hi']
def zai:Option (List Prop×Av)→Option (List Prop×Option Int)
 | none=>some ([],none)
 | some (p,.c (.lf (.v (.int k i))))=>some (p,some i)
 | _=>none
theorem z93 {o:Option (List Prop×Av)} {p:List Prop} {i:Option Int} (h:zai o=some (p,i)) (hp:z03 p) {β:Nat→Option Nat} {F:Nat→Prop} {w:World} {v:Option Value}
  (hv:(o=none∧v=none)∨∃ q x u,o=some (q,x)∧v=some u∧(z03 q→AvR β F w x u)):(i=none∧v=none)∨∃ k j,i=some j∧v=some (.int k j):=by
 rcases hv with ⟨rfl,rfl⟩ |⟨q,x,u,rfl,rfl,hx⟩
 ·simp only[zai,Option.some.injEq,Prod.mk.injEq] at h
  exact .inl ⟨h.2.symm,rfl⟩
 ·unfold zai at h
  split at h
  ·cases ‹some (q,x)=none›
  ·rename_i p' k i' h1
   simp only[Option.some.injEq,Prod.mk.injEq] at h1 h
   obtain⟨rfl,rfl⟩:=h1
   obtain⟨rfl,rfl⟩:=h
   have:=(hx hp).val
   subst this
   exact .inr ⟨_,_,rfl,rfl⟩
  ·cases h
def zc5 (P:Program) (σ:St) (t:TypeId) (x:List Prop×Av) (lo hi mx:Option (List Prop×Av)):Option (List Prop×Av):=
 match zai lo,zai hi,zai mx with
 | some (pl,l),some (ph,h),some (pm,none)=>
   match P.underlying t with
   | some (.slice e)=>
     match x with
     |(p,.c (.lf (.ints k xs)))=>
      match l,h with
      | none,none=>some ((p++pl++ph++pm)++ [P.cellsOf e=1],.c (.lf (.ints k xs)))
      | some a,none=>some ((p++pl++ph++pm)++ [P.cellsOf e=1,0≤a,a≤(xs.length:Int)],.c (.lf (.ints k (xs.drop a.toNat))))
      | none,some b=>some ((p++pl++ph++pm)++ [P.cellsOf e=1,0≤b,b≤(xs.length:Int)],.c (.lf (.ints k (xs.take b.toNat))))
      | some a,some b=>some ((p++pl++ph++pm)++ [P.cellsOf e=1,0≤a,a≤b,b≤(xs.length:Int)],.c (.lf (.ints k ((xs.take b.toNat).drop a.toNat))))
     |(p,.c (.lf (.recs sz xs)))=>
      match l,h with
      | none,none=>some ((p++pl++ph++pm)++ [P.cellsOf e=sz,(P.info? e).isSome=true],.c (.lf (.recs sz xs)))
      | some a,none=>some ((p++pl++ph++pm)++ [P.cellsOf e=sz,(P.info? e).isSome=true,0≤a,a≤(xs.length:Int)],.c (.lf (.recs sz (xs.drop a.toNat))))
      | none,some b=>some ((p++pl++ph++pm)++ [P.cellsOf e=sz,(P.info? e).isSome=true,0≤b,b≤(xs.length:Int)],.c (.lf (.recs sz (xs.take b.toNat))))
      | some a,some b=>some ((p++pl++ph++pm)++ [P.cellsOf e=sz,(P.info? e).isSome=true,0≤a,a≤b,b≤(xs.length:Int)],.c (.lf (.recs sz ((xs.take b.toNat).drop a.toNat))))
     |(p,.c (.own j sz off len))=>
      match l,h with
      | none,none=>some ((p++pl++ph++pm)++ [P.cellsOf e=sz,(P.info? e).isSome=true],.c (.own j sz off len))
      | some a,none=>some ((p++pl++ph++pm)++ [P.cellsOf e=sz,(P.info? e).isSome=true,0≤a,a≤(len:Int)],.c (.own j sz (off+a.toNat*sz) (len -a.toNat)))
      | none,some b=>some ((p++pl++ph++pm)++ [P.cellsOf e=sz,(P.info? e).isSome=true,0≤b,b≤(len:Int)],.c (.own j sz off b.toNat))
      | some a,some b=>some ((p++pl++ph++pm)++ [P.cellsOf e=sz,(P.info? e).isSome=true,0≤a,a≤b,b≤(len:Int)],.c (.own j sz (off+a.toNat*sz) (b.toNat -a.toNat)))
     | _=>none
   | some .string=>
     match x with
     |(p,.c (.lf (.v (.string s))))=>
      match l,h with
      | none,none=>some (p++pl++ph++pm,lv (.string (s.extract 0 s.size)))
      | some a,none=>some ((p++pl++ph++pm)++ [0≤a,a≤(s.size:Int)],lv (.string (s.extract a.toNat s.size)))
      | none,some b=>some ((p++pl++ph++pm)++ [0≤b,b≤(s.size:Int)],lv (.string (s.extract 0 b.toNat)))
      | some a,some b=>some ((p++pl++ph++pm)++ [0≤a,a≤b,b≤(s.size:Int)],lv (.string (s.extract a.toNat b.toNat)))
     | _=>none
   | some (.array n e)=>
     match x with
     |(p,.c (.ptr j off))=>
      match σ.hp j with
      | .row (.ints k xs)=>
        match l,h with
        | none,none=>some ((p++pl++ph++pm)++ [P.cellsOf e=1,off+n≤xs.length,xs≠ [],n≤maxLen],.c (.own j 1 off n))
        | some a,none=>some ((p++pl++ph++pm)++ [P.cellsOf e=1,off+n≤xs.length,xs≠ [],n≤maxLen,0≤a,a≤(n:Int)],.c (.own j 1 (off+a.toNat*1) (n -a.toNat)))
        | none,some b=>some ((p++pl++ph++pm)++ [P.cellsOf e=1,off+n≤xs.length,xs≠ [],n≤maxLen,0≤b,b≤(n:Int)],.c (.own j 1 off b.toNat))
        | some a,some b=>some ((p++pl++ph++pm)++ [P.cellsOf e=1,off+n≤xs.length,xs≠ [],n≤maxLen,0≤a,a≤b,b≤(n:Int)],.c (.own j 1 (off+a.toNat*1) (b.toNat -a.toNat)))
      | _=>none
     | _=>none
   | _=>none
 | _,_,_=>none
theorem LfR.cut_ints {F:Nat→Prop} {w:World} {k:IntKind} {xs:List Int} {a:Option Addr} {n c:Nat} (h:LfR F w (.ints k xs) (.slice a n c)) {l m:Nat} (hl:l≤m) (hm:m≤xs.length):
  LfR F w (.ints k ((xs.take m).drop l)) (.slice (if c=l then a else a.map (·.add (l*1))) (m -l) (c -l)):=by
 cases h with | ints _ _ _ _ _ hn hc hmx hh=>
 subst hn
 refine .ints _ _ _ _ _ (by simp; omega) (by omega) (by omega) fun hne=>?_
 have hlt:l<m:=by
  rcases Nat.lt_or_ge l m with h | h
  ·exact h
  ·exfalso; exact hne (List.eq_nil_of_length_eq_zero (by simp; omega))
 obtain⟨b,o,rfl,hF,hx⟩:=hh (by intro h; subst h; simp at hm; omega)
 refine⟨b,o+l,?_,hF,fun i x hi=>?_⟩
 ·rw[if_neg (by omega)]; simp[z0D]
 ·rw[List.getElem?_drop,List.getElem?_take] at hi
  split at hi
  ·rw[Nat.add_assoc]; exact hx _ x hi
  ·cases hi
theorem LfR.cut_recs {F:Nat→Prop} {w:World} {sz:Nat} {xs:List (List Leaf)} {a:Option Addr} {n c:Nat} (h:LfR F w (.recs sz xs) (.slice a n c)) {l m:Nat} (hl:l≤m) (hm:m≤xs.length):
  LfR F w (.recs sz ((xs.take m).drop l)) (.slice (if c=l then a else a.map (·.add (l*sz))) (m -l) (c -l)):=by
 cases h with | recs _ _ _ _ _ vs hn hc hmx hs hh hv=>
 subst hn
 refine .recs _ _ _ _ _ (fun i j=>vs (l+i) j) (by simp; omega) (by omega) (by omega) (fun r hr=>hs r (List.mem_of_mem_take (List.mem_of_mem_drop hr))) (fun hne=>?_) (fun i r j x hi hj=>?_)
 ·have hlt:l<m:=by
   rcases Nat.lt_or_ge l m with h | h
   ·exact h
   ·exfalso; exact hne (List.eq_nil_of_length_eq_zero (by simp; omega))
  obtain⟨b,o,rfl,hF,hx⟩:=hh (by intro h; subst h; simp at hm; omega)
  refine⟨b,o+l*sz,?_,hF,fun i r j x hi hj=>?_⟩
  ·rw[if_neg (by omega)]; simp[z0D]
  ·rw[List.getElem?_drop,List.getElem?_take] at hi
   split at hi
   ·have:=hx _ r j x hi hj
    rw[show o+l*sz+i*sz+j=o+(l+i)*sz+j by rw[Nat.add_mul]; omega]
    exact this
   ·cases hi
 ·rw[List.getElem?_drop,List.getElem?_take] at hi
  split at hi
  ·exact hv _ r j x hi hj
  ·cases hi
theorem CellR.cut_own {β:Nat→Option Nat} {F:Nat→Prop} {w:World} {j sz off len:Nat} {a:Option Addr} {n c:Nat} (h:CellR β F w (.own j sz off len) (.slice a n c)) {l m:Nat} (hl:l≤m) (hm:m≤len):
  CellR β F w (.own j sz (off+l*sz) (m -l)) (.slice (if c=l then a else a.map (·.add (l*sz))) (m -l) (c -l)):=by
 cases h with | own _ _ _ _ _ _ hc hmx hh=>
 refine .own _ _ _ _ _ _ (by omega) (by omega) ?_
 rcases hh with rfl |⟨g,hg,rfl,cur,hrow,hcap⟩
 ·exact .inl (by omega)
 ·by_cases hcl:c=l
  ·exact .inl (by omega)
  ·refine .inr ⟨g,hg,by rw[if_neg hcl]; simp[z0D],cur,hrow,?_⟩
   have:l*sz+(c -l)*sz=c*sz:=by rw[←Nat.add_mul]; congr 1; omega
   omega
theorem Bd.none (d:Nat):Bd none d d:= .inl ⟨rfl,rfl⟩
theorem Bd.some {k:IntKind} {i:Int} (d:Nat) (h:0≤i):Bd (some (.int k i)) d i.toNat:= .inr ⟨k,i,rfl,h,rfl⟩
section
variable {P:Program} {w:World} {t e:TypeId} {β:Nat→Option Nat} {F:Nat→Prop} {lo hi:Option Value} {l h:Nat}
theorem z6S {k:IntKind} {xs:List Int} {v:Value} (ht:P.underlying t=some (.slice e)) (h1:P.cellsOf e=1) (hv:AvR β F w (.c (.lf (.ints k xs))) v) (hl:Bd lo 0 l) (hh:Bd hi xs.length h) (hlh:l≤h) (hhx:h≤xs.length):
  ∃ z,(Instr.sliceAt t v lo hi none).run P w= .ok z w∧AvR β F w (.c (.lf (.ints k ((xs.take h).drop l)))) z:=by
 cases hv with | c hv=>cases hv with | lf hv=>
 have hv':=hv
 cases hv with | ints _ _ a n c hn hc hm _=>
 have hi:(P.info? e).isSome=true:=z0J (by rw[h1]; decide)
 subst hn
 refine⟨_,z5v ht hi (.none c) (Nat.le_refl _) hh (by omega) hl hlh (by simp),.c (.lf ?_)⟩
 rw[h1]
 exact hv'.cut_ints hlh hhx
theorem z6T {sz:Nat} {xs:List (List Leaf)} {v:Value} (ht:P.underlying t=some (.slice e)) (h1:P.cellsOf e=sz) (hi':(P.info? e).isSome=true) (hv:AvR β F w (.c (.lf (.recs sz xs))) v) (hl:Bd lo 0 l) (hh:Bd hi xs.length h) (hlh:l≤h) (hhx:h≤xs.length):
  ∃ z,(Instr.sliceAt t v lo hi none).run P w= .ok z w∧AvR β F w (.c (.lf (.recs sz ((xs.take h).drop l)))) z:=by
 cases hv with | c hv=>cases hv with | lf hv=>
 have hv':=hv
 cases hv with | recs _ _ a n c vs hn hc hm=>
 subst hn
 refine⟨_,z5v ht hi' (.none c) (Nat.le_refl _) hh (by omega) hl hlh (by simp),.c (.lf ?_)⟩
 rw[h1]
 exact hv'.cut_recs hlh hhx
theorem z8k {j sz off len:Nat} {v:Value} (ht:P.underlying t=some (.slice e)) (h1:P.cellsOf e=sz) (hi':(P.info? e).isSome=true) (hv:AvR β F w (.c (.own j sz off len)) v) (hl:Bd lo 0 l) (hh:Bd hi len h) (hlh:l≤h) (hhx:h≤len):
  ∃ z,(Instr.sliceAt t v lo hi none).run P w= .ok z w∧AvR β F w (.c (.own j sz (off+l*sz) (h -l))) z:=by
 cases hv with | c hv=>
 have hv':=hv
 cases hv with | own _ _ _ _ a c hc hm _=>
 refine⟨_,z5v ht hi' (.none c) (Nat.le_refl _) hh (by omega) hl hlh (by simp),.c ?_⟩
 rw[h1]
 exact hv'.cut_own hlh hhx
theorem z8l {s:ByteArray} {v:Value} (ht:P.underlying t=some .string) (hv:AvR β F w (lv (.string s)) v) (hl:Bd lo 0 l) (hh:Bd hi s.size h) (hlh:l≤h) (hhx:h≤s.size):
  ∃ z,(Instr.sliceAt t v lo hi none).run P w= .ok z w∧AvR β F w (lv (.string (s.extract l h))) z:=by
 obtain rfl:=hv.val
 exact⟨_,by simp[Instr.sliceAt,Instr.slice,run_underlying ht,z6R (.none s.size) (Nat.le_refl _) hh hhx hl hlh (by simp)],.c (.lf (.v _ rfl))⟩
theorem z8m {E:Env} {σ:St} {a:Act} {k:IntKind} {xs:List Int} {n j off:Nat} {v:Value} (hS:SRb E β F σ a w) (hb:σ.hp j= .row (.ints k xs)) (ht:P.underlying t=some (.array n e)) (h1:P.cellsOf e=1) (hv:AvR β F w (.c (.ptr j off)) v)
  (hn:off+n≤xs.length) (hne:xs≠ []) (hmx:n≤maxLen) (hl:Bd lo 0 l) (hh:Bd hi n h) (hlh:l≤h) (hhx:h≤n):
  ∃ z,(Instr.sliceAt t v lo hi none).run P w= .ok z w∧AvR β F w (.c (.own j 1 (off+l*1) (h -l))) z:=by
 have hB:=hS.hp j
 rw[hb] at hB
 cases hv with | c hv=>cases hv with | ptr _ _ g hg=>
 rcases hB with ⟨h0,_⟩ |⟨g',cur,hg',hrow,hcs⟩
 ·exact absurd h0 hne
 ·rw[hg] at hg'
  obtain rfl:=Option.some.inj hg'
  have hi:(P.info? e).isSome=true:=z0J (by rw[h1]; decide)
  have hsz:xs.length≤cur.size:=by
   rcases Nat.lt_or_ge cur.size xs.length with h | h
   ·have:=hcs cur.size xs[cur.size] (by simp[h])
    simp at this
   ·exact h
  refine⟨.slice (some (if n=l then⟨g,off,none⟩ else(⟨g,off,none⟩:Addr).add (l*1))) (h -l) (n -l),by simp only[Instr.sliceAt,Sem.run_bind,run_underlying ht,Result.andThen_ok,Instr.sureAddr,Sem.run_pure,z6R (.none n) (Nat.le_refl _) hh hhx hl hlh (by simp),z0M hi,h1],.c (.own _ _ _ _ _ _ (by omega) (by omega) ?_)⟩
  by_cases hnl:n=l
  ·exact .inl (by omega)
  ·exact .inr ⟨g,hg,by rw[if_neg hnl,z0D],cur,hrow,by omega⟩
end
def zf5 (β:Nat→Option Nat) (F:Nat→Prop) (w:World) (o:Option (List Prop×Av)) (v:Option Value):Prop:=(o=none∧v=none)∨∃ q x u,o=some (q,x)∧v=some u∧(z03 q→AvR β F w x u)
set_option maxHeartbeats 1000000 in
theorem zc6 {P:Program} {E:Env} {σ:St} {a:Act} {w:World} {t:TypeId} {β:Nat→Option Nat} {F:Nat→Prop} {x:List Prop×Av} {lo hi mx:Option (List Prop×Av)} {v:Value} {vl vh vm:Option Value} {ps:List Prop} {y:Av}
  (h:zc5 P σ t x lo hi mx=some (ps,y)) (hp:z03 ps) (hS:SRb E β F σ a w) (hx:z03 x.1→AvR β F w x.2 v) (hl:zf5 β F w lo vl) (hh:zf5 β F w hi vh) (hm:zf5 β F w mx vm):
  ∃ z,(Instr.sliceAt t v vl vh vm).run P w= .ok z w∧AvR β F w y z:=by
 obtain⟨p,x⟩:=x
 unfold zc5 at h
 split at h
 ·rename_i pl l ph h' pm e1 e2 e3
  have K:z03 (p++pl++ph++pm)→(AvR β F w x v)∧((l=none∧vl=none)∨∃ k j,l=some j∧vl=some (.int k j))∧((h'=none∧vh=none)∨∃ k j,h'=some j∧vh=some (.int k j))∧vm=none:=by
   intro hq
   refine⟨hx hq.left.left.left,z93 e1 hq.left.left.right hl,z93 e2 hq.left.right hh,?_⟩
   rcases z93 e3 hq.right hm with ⟨_,h⟩ |⟨k,j,h,_⟩
   ·exact h
   ·cases h
  clear hx hl hh hm e1 e2 e3
  split at h
  ·rename_i e ht
   split at h
   ·rename_i p' k xs h1
    simp only[Prod.mk.injEq] at h1
    obtain⟨rfl,rfl⟩:=h1
    split at h<;>simp only[Option.some.injEq,Prod.mk.injEq] at h<;>obtain⟨rfl,rfl⟩:=h<;>obtain⟨hv,hl,hh,rfl⟩:=K hp.left<;>have hr:=hp.right
    ·obtain rfl:vl=none:=by rcases hl with ⟨_,h⟩ |⟨_,_,h,_⟩; exact h; cases h
     obtain rfl:vh=none:=by rcases hh with ⟨_,h⟩ |⟨_,_,h,_⟩; exact h; cases h
     simpa using z6S ht hr hv (.none 0) (.none _) (Nat.zero_le _) (Nat.le_refl _)
    ·rcases hl with ⟨h,_⟩ |⟨kl,_,h,rfl⟩<;>cases h
     obtain rfl:vh=none:=by rcases hh with ⟨_,h⟩ |⟨_,_,h,_⟩; exact h; cases h
     obtain⟨c1,c2,c3⟩:=hr
     have c3':=c3
     simp only[z03] at c3'
     simpa using z6S ht c1 hv (.some 0 c2) (.none _) (by omega) (Nat.le_refl _)
    ·obtain rfl:vl=none:=by rcases hl with ⟨_,h⟩ |⟨_,_,h,_⟩; exact h; cases h
     rcases hh with ⟨h,_⟩ |⟨kh,_,h,rfl⟩<;>cases h
     obtain⟨c1,c2,c3⟩:=hr
     have c3':=c3
     simp only[z03] at c3'
     simpa using z6S ht c1 hv (.none 0) (.some _ c2) (Nat.zero_le _) (by omega)
    ·rcases hl with ⟨h,_⟩ |⟨kl,_,h,rfl⟩<;>cases h
     rcases hh with ⟨h,_⟩ |⟨kh,_,h,rfl⟩<;>cases h
     obtain⟨c1,c2,c3,c4⟩:=hr
     have c4':=c4
     simp only[z03] at c4'
     exact z6S ht c1 hv (.some 0 c2) (.some _ (by omega)) (by omega) (by omega)
   ·rename_i p' sz xs h1
    simp only[Prod.mk.injEq] at h1
    obtain⟨rfl,rfl⟩:=h1
    split at h<;>simp only[Option.some.injEq,Prod.mk.injEq] at h<;>obtain⟨rfl,rfl⟩:=h<;>obtain⟨hv,hl,hh,rfl⟩:=K hp.left<;>have hr:=hp.right
    ·obtain rfl:vl=none:=by rcases hl with ⟨_,h⟩ |⟨_,_,h,_⟩; exact h; cases h
     obtain rfl:vh=none:=by rcases hh with ⟨_,h⟩ |⟨_,_,h,_⟩; exact h; cases h
     simpa using z6T ht hr.1 hr.2 hv (.none 0) (.none _) (Nat.zero_le _) (Nat.le_refl _)
    ·rcases hl with ⟨h,_⟩ |⟨kl,_,h,rfl⟩<;>cases h
     obtain rfl:vh=none:=by rcases hh with ⟨_,h⟩ |⟨_,_,h,_⟩; exact h; cases h
     obtain⟨c1,c0,c2,c3⟩:=hr
     have c3':=c3
     simp only[z03] at c3'
     simpa using z6T ht c1 c0 hv (.some 0 c2) (.none _) (by omega) (Nat.le_refl _)
    ·obtain rfl:vl=none:=by rcases hl with ⟨_,h⟩ |⟨_,_,h,_⟩; exact h; cases h
     rcases hh with ⟨h,_⟩ |⟨kh,_,h,rfl⟩<;>cases h
     obtain⟨c1,c0,c2,c3⟩:=hr
     have c3':=c3
     simp only[z03] at c3'
     simpa using z6T ht c1 c0 hv (.none 0) (.some _ c2) (Nat.zero_le _) (by omega)
    ·rcases hl with ⟨h,_⟩ |⟨kl,_,h,rfl⟩<;>cases h
     rcases hh with ⟨h,_⟩ |⟨kh,_,h,rfl⟩<;>cases h
     obtain⟨c1,c0,c2,c3,c4⟩:=hr
     have c4':=c4
     simp only[z03] at c4'
     exact z6T ht c1 c0 hv (.some 0 c2) (.some _ (by omega)) (by omega) (by omega)
   ·rename_i p' j sz off len h1
    simp only[Prod.mk.injEq] at h1
    obtain⟨rfl,rfl⟩:=h1
    split at h<;>simp only[Option.some.injEq,Prod.mk.injEq] at h<;>obtain⟨rfl,rfl⟩:=h<;>obtain⟨hv,hl,hh,rfl⟩:=K hp.left<;>have hr:=hp.right
    ·obtain rfl:vl=none:=by rcases hl with ⟨_,h⟩ |⟨_,_,h,_⟩; exact h; cases h
     obtain rfl:vh=none:=by rcases hh with ⟨_,h⟩ |⟨_,_,h,_⟩; exact h; cases h
     simpa using z8k ht hr.1 hr.2 hv (.none 0) (.none _) (Nat.zero_le _) (Nat.le_refl _)
    ·rcases hl with ⟨h,_⟩ |⟨kl,_,h,rfl⟩<;>cases h
     obtain rfl:vh=none:=by rcases hh with ⟨_,h⟩ |⟨_,_,h,_⟩; exact h; cases h
     obtain⟨c1,c0,c2,c3⟩:=hr
     have c3':=c3
     simp only[z03] at c3'
     exact z8k ht c1 c0 hv (.some 0 c2) (.none _) (by omega) (Nat.le_refl _)
    ·obtain rfl:vl=none:=by rcases hl with ⟨_,h⟩ |⟨_,_,h,_⟩; exact h; cases h
     rcases hh with ⟨h,_⟩ |⟨kh,_,h,rfl⟩<;>cases h
     obtain⟨c1,c0,c2,c3⟩:=hr
     have c3':=c3
     simp only[z03] at c3'
     simpa using z8k ht c1 c0 hv (.none 0) (.some _ c2) (Nat.zero_le _) (by omega)
    ·rcases hl with ⟨h,_⟩ |⟨kl,_,h,rfl⟩<;>cases h
     rcases hh with ⟨h,_⟩ |⟨kh,_,h,rfl⟩<;>cases h
     obtain⟨c1,c0,c2,c3,c4⟩:=hr
     have c4':=c4
     simp only[z03] at c4'
     exact z8k ht c1 c0 hv (.some 0 c2) (.some _ (by omega)) (by omega) (by omega)
   ·cases h
  ·rename_i ht
   split at h
   ·rename_i p' s h1
    simp only[Prod.mk.injEq] at h1
    obtain⟨rfl,rfl⟩:=h1
    split at h<;>simp only[Option.some.injEq,Prod.mk.injEq] at h<;>obtain⟨rfl,rfl⟩:=h
    ·obtain⟨hv,hl,hh,rfl⟩:=K hp
     obtain rfl:vl=none:=by rcases hl with ⟨_,h⟩ |⟨_,_,h,_⟩; exact h; cases h
     obtain rfl:vh=none:=by rcases hh with ⟨_,h⟩ |⟨_,_,h,_⟩; exact h; cases h
     exact z8l ht hv (.none 0) (.none _) (Nat.zero_le _) (Nat.le_refl _)
    ·obtain⟨hv,hl,hh,rfl⟩:=K hp.left
     rcases hl with ⟨h,_⟩ |⟨kl,_,h,rfl⟩<;>cases h
     obtain rfl:vh=none:=by rcases hh with ⟨_,h⟩ |⟨_,_,h,_⟩; exact h; cases h
     obtain⟨c2,c3⟩:=hp.right
     have c3':=c3
     simp only[z03] at c3'
     exact z8l ht hv (.some 0 c2) (.none _) (by omega) (Nat.le_refl _)
    ·obtain⟨hv,hl,hh,rfl⟩:=K hp.left
     obtain rfl:vl=none:=by rcases hl with ⟨_,h⟩ |⟨_,_,h,_⟩; exact h; cases h
     rcases hh with ⟨h,_⟩ |⟨kh,_,h,rfl⟩<;>cases h
     obtain⟨c2,c3⟩:=hp.right
     have c3':=c3
     simp only[z03] at c3'
     exact z8l ht hv (.none 0) (.some _ c2) (Nat.zero_le _) (by omega)
    ·obtain⟨hv,hl,hh,rfl⟩:=K hp.left
     rcases hl with ⟨h,_⟩ |⟨kl,_,h,rfl⟩<;>cases h
     rcases hh with ⟨h,_⟩ |⟨kh,_,h,rfl⟩<;>cases h
     obtain⟨c2,c3,c4⟩:=hp.right
     have c4':=c4
     simp only[z03] at c4'
     exact z8l ht hv (.some 0 c2) (.some _ (by omega)) (by omega) (by omega)
   ·cases h
  ·rename_i n e ht
   split at h
   ·rename_i p' j off h1
    simp only[Prod.mk.injEq] at h1
    obtain⟨rfl,rfl⟩:=h1
    split at h
    ·rename_i k xs hb
     split at h<;>simp only[Option.some.injEq,Prod.mk.injEq] at h<;>obtain⟨rfl,rfl⟩:=h<;>obtain⟨hv,hl,hh,rfl⟩:=K hp.left
     ·obtain rfl:vl=none:=by rcases hl with ⟨_,h⟩ |⟨_,_,h,_⟩; exact h; cases h
      obtain rfl:vh=none:=by rcases hh with ⟨_,h⟩ |⟨_,_,h,_⟩; exact h; cases h
      obtain⟨c1,c2,c3,c4⟩:=hp.right
      simpa using z8m hS hb ht c1 hv c2 c3 c4 (.none 0) (.none _) (Nat.zero_le _) (Nat.le_refl _)
     ·rcases hl with ⟨h,_⟩ |⟨kl,_,h,rfl⟩<;>cases h
      obtain rfl:vh=none:=by rcases hh with ⟨_,h⟩ |⟨_,_,h,_⟩; exact h; cases h
      obtain⟨c1,c2,c3,c4,c5,c6⟩:=hp.right
      have c6':=c6
      simp only[z03] at c6'
      exact z8m hS hb ht c1 hv c2 c3 c4 (.some 0 c5) (.none _) (by omega) (Nat.le_refl _)
     ·obtain rfl:vl=none:=by rcases hl with ⟨_,h⟩ |⟨_,_,h,_⟩; exact h; cases h
      rcases hh with ⟨h,_⟩ |⟨kh,_,h,rfl⟩<;>cases h
      obtain⟨c1,c2,c3,c4,c5,c6⟩:=hp.right
      have c6':=c6
      simp only[z03] at c6'
      simpa using z8m hS hb ht c1 hv c2 c3 c4 (.none 0) (.some _ c5) (Nat.zero_le _) (by omega)
     ·rcases hl with ⟨h,_⟩ |⟨kl,_,h,rfl⟩<;>cases h
      rcases hh with ⟨h,_⟩ |⟨kh,_,h,rfl⟩<;>cases h
      obtain⟨c1,c2,c3,c4,c5,c6,c7⟩:=hp.right
      have c7':=c7
      simp only[z03] at c7'
      exact z8m hS hb ht c1 hv c2 c3 c4 (.some 0 c5) (.some _ (by omega)) (by omega) (by omega)
    ·cases h
   ·cases h
  ·cases h
 ·cases h
end Go.Sx
namespace Go.Sx
open Go
set_option linter.unusedVariables false
def bs (s:ByteArray):List Int:=s.data.toList.map fun b=>(b.toNat:Int)
def lenP (P:Program) (t:TypeId):List Prop×Av→Option (List Prop×Av)
 |(p,.c (.lf (.ints k l)))=>some (p++ [∃ e,P.underlying t=some (.slice e)],lv (.int .i64 l.length))
 |(p,.c (.lf (.recs sz l)))=>some (p++ [∃ e,P.underlying t=some (.slice e)],lv (.int .i64 l.length))
 |(p,.c (.own j sz off len))=>some (p++ [∃ e,P.underlying t=some (.slice e)],lv (.int .i64 len))
 |(p,.c (.lf (.v (.slice a n c))))=>some (p++ [∃ e,P.underlying t=some (.slice e)],lv (.int .i64 n))
 |(p,.c (.lf (.v (.string s))))=>some (p++ [P.underlying t=some .string],lv (.int .i64 s.size))
 | _=>none
theorem zf6 {P:Program} {w:World} {t ty:TypeId} {β:Nat→Option Nat} {F:Nat→Prop} {x:List Prop×Av} {v:Value} {ps:List Prop} {y:Av} (h:lenP P t x=some (ps,y)) (hp:z03 ps)
  (hx:z03 x.1→AvR β F w x.2 v):∃ z,(Builtin.len_ #[t] ty #[v]).run P w= .ok z w∧AvR β F w y z:=by
 obtain⟨p,x⟩:=x
 unfold lenP at h
 split at h
 ·rename_i h1
  simp only[Prod.mk.injEq] at h1; obtain⟨rfl,rfl⟩:=h1
  simp only[Option.some.injEq,Prod.mk.injEq] at h; obtain⟨rfl,rfl⟩:=h
  have hv:=hx hp.left
  obtain⟨e,ht⟩:∃ e,P.underlying t=some (.slice e):=hp.right
  cases hv with | c hv=>cases hv with | lf hv=>cases hv with | ints _ _ a n c hn=>
  subst hn
  exact⟨_,by simp[Builtin.len_,run_underlying ht,goInt],.c (.lf (.v _ rfl))⟩
 ·rename_i h1
  simp only[Prod.mk.injEq] at h1; obtain⟨rfl,rfl⟩:=h1
  simp only[Option.some.injEq,Prod.mk.injEq] at h; obtain⟨rfl,rfl⟩:=h
  have hv:=hx hp.left
  obtain⟨e,ht⟩:∃ e,P.underlying t=some (.slice e):=hp.right
  cases hv with | c hv=>cases hv with | lf hv=>cases hv with | recs _ _ a n c vs hn=>
  subst hn
  exact⟨_,by simp[Builtin.len_,run_underlying ht,goInt],.c (.lf (.v _ rfl))⟩
 ·rename_i h1
  simp only[Prod.mk.injEq] at h1; obtain⟨rfl,rfl⟩:=h1
  simp only[Option.some.injEq,Prod.mk.injEq] at h; obtain⟨rfl,rfl⟩:=h
  have hv:=hx hp.left
  obtain⟨e,ht⟩:∃ e,P.underlying t=some (.slice e):=hp.right
  cases hv with | c hv=>cases hv with | own=>
  exact⟨_,by simp[Builtin.len_,run_underlying ht,goInt],.c (.lf (.v _ rfl))⟩
 ·rename_i h1
  simp only[Prod.mk.injEq] at h1; obtain⟨rfl,rfl⟩:=h1
  simp only[Option.some.injEq,Prod.mk.injEq] at h; obtain⟨rfl,rfl⟩:=h
  obtain rfl:=(hx hp.left).val
  obtain⟨e,ht⟩:∃ e,P.underlying t=some (.slice e):=hp.right
  exact⟨_,by simp[Builtin.len_,run_underlying ht,goInt],.c (.lf (.v _ rfl))⟩
 ·rename_i h1
  simp only[Prod.mk.injEq] at h1; obtain⟨rfl,rfl⟩:=h1
  simp only[Option.some.injEq,Prod.mk.injEq] at h; obtain⟨rfl,rfl⟩:=h
  obtain rfl:=(hx hp.left).val
  have ht:P.underlying t=some .string:=hp.right
  exact⟨_,by simp[Builtin.len_,run_underlying ht,goInt],.c (.lf (.v _ rfl))⟩
 ·cases h
def mmP (mx:Bool):List Prop×Av→List Prop×Av→Option (List Prop×Av)
 |(p,.c (.lf (.v (.int k a)))),(q,.c (.lf (.v (.int k' b))))=>match mx with
  | true=>some (p++q,lv (.int k (max a b)))
  | false=>some (p++q,lv (.int k (min a b)))
 | _,_=>none
theorem zks (a b:Int):(if b<a then b else a)=min a b:=by rw[Int.min_def]; split<;>split<;>omega
theorem zkt (a b:Int):(if b>a then b else a)=max a b:=by rw[Int.max_def]; split<;>split<;>omega
theorem zaM {P:Program} {w:World} {ts:Array TypeId} {ty:TypeId} {mx:Bool} {β:Nat→Option Nat} {F:Nat→Prop} {x y:List Prop×Av} {v u:Value} {ps:List Prop} {z:Av} (h:mmP mx x y=some (ps,z)) (hp:z03 ps)
  (hx:z03 x.1→AvR β F w x.2 v) (hy:z03 y.1→AvR β F w y.2 u):∃ r,(if mx then Builtin.max_ ts ty #[v,u] else Builtin.min_ ts ty #[v,u]).run P w= .ok r w∧AvR β F w z r:=by
 obtain⟨p,x⟩:=x
 obtain⟨q,y⟩:=y
 unfold mmP at h
 split at h
 ·rename_i h1 h2
  simp only[Prod.mk.injEq] at h1 h2; obtain⟨rfl,rfl⟩:=h1; obtain⟨rfl,rfl⟩:=h2
  cases mx
  all_goals
   simp only[Option.some.injEq,Prod.mk.injEq] at h; obtain⟨rfl,rfl⟩:=h
   obtain rfl:=(hx hp.left).val
   obtain rfl:=(hy hp.right).val
   refine⟨_,?_,.c (.lf (.v _ rfl))⟩
  ·simp only[Bool.false_eq_true,if_false,Builtin.min_,List.foldlM,Builtin.min2,Sem.run_bind,Sem.run_pure,Result.andThen_ok]
   rw[zks]
  ·simp only[if_true,Builtin.max_,List.foldlM,Builtin.max2,Sem.run_bind,Sem.run_pure,Result.andThen_ok]
   rw[zkt]
 ·cases h
def zij (i:Nat):List Prop×Av→Option (List Prop×Av)
 |(p,.tup xs)=>match xs[i]? with | some x=>some (p++(str x).1,(str x).2) | none=>none
 | _=>none
theorem zf7 {P:Program} {w:World} {i:Nat} {β:Nat→Option Nat} {F:Nat→Prop} {x:List Prop×Av} {v:Value} {ps:List Prop} {y:Av} (h:zij i x=some (ps,y)) (hp:z03 ps)
  (hx:z03 x.1→AvR β F w x.2 v):∃ z,(Instr.extract v i).run P w= .ok z w∧AvR β F w y z:=by
 obtain⟨p,x⟩:=x
 unfold zij at h
 split at h
 ·rename_i h1
  simp only[Prod.mk.injEq] at h1; obtain⟨rfl,rfl⟩:=h1
  split at h
  ·rename_i z hz
   simp only[Option.some.injEq,Prod.mk.injEq] at h; obtain⟨rfl,rfl⟩:=h
   have hv:=hx hp.left
   cases hv with | tup _ cs h1 hc=>
   have hlt:i<cs.size:=by rw[h1]; exact(List.getElem?_eq_some_iff.1 hz).1
   refine⟨cs[i],by simp[Instr.extract,hlt],?_⟩
   exact zoS (hc i z _ hz (by simp[hlt])) rfl hp.right
  ·cases h
 ·cases h
def zik (P:Program) (t:TypeId) (f:Nat):List Prop×Av→Option (List Prop×Av)
 |(p,.agg cs)=>
  match P.underlying t with
  | some (.struct fs)=>
    match fs[f]? with
    | some fd=>
      match z2w P fd.type with
      | true=>some (p++ [fd.offset+P.cellsOf fd.type≤cs.length,(P.info? fd.type).isSome=true],.agg ((cs.drop fd.offset).take (P.cellsOf fd.type)))
      | false=>match cs[fd.offset]? with | some x=>some (p++ [(P.underlying fd.type).isSome=true],.c x) | none=>none
    | none=>none
  | _=>none
 | _=>none
theorem zf8 {P:Program} {w:World} {t:TypeId} {f:Nat} {β:Nat→Option Nat} {F:Nat→Prop} {x:List Prop×Av} {v:Value} {ps:List Prop} {y:Av} (h:zik P t f x=some (ps,y)) (hp:z03 ps)
  (hx:z03 x.1→AvR β F w x.2 v):∃ z,(Instr.field t v f).run P w= .ok z w∧AvR β F w y z:=by
 obtain⟨p,x⟩:=x
 unfold zik at h
 split at h
 ·rename_i h1
  simp only[Prod.mk.injEq] at h1; obtain⟨rfl,rfl⟩:=h1
  split at h
  ·rename_i fs ht
   split at h
   ·rename_i fd hfd
    split at h
    ·rename_i htg
     simp only[Option.some.injEq,Prod.mk.injEq] at h; obtain⟨rfl,rfl⟩:=h
     have hv:=hx hp.left
     obtain⟨h1,h2⟩:=hp.right
     cases hv with | agg _ cv hsz hc=>
     refine⟨.agg (cv.extract fd.offset (fd.offset+P.cellsOf fd.type)),by simp[Instr.field,run_underlying ht,hfd,asAgg,part,z1Q (z5h htg),htg,z0M h2],?_⟩
     refine .agg _ _ (by simp; omega) fun i x u hxi hui=>?_
     rw[List.getElem?_take] at hxi
     split at hxi
     ·rename_i hlt
      rw[List.getElem?_drop] at hxi
      rw[Array.getElem?_extract] at hui
      split at hui
      ·exact hc _ x u hxi hui
      ·cases hui
     ·cases hxi
    ·rename_i htg
     split at h
     ·rename_i z hz
      simp only[Option.some.injEq,Prod.mk.injEq] at h; obtain⟨rfl,rfl⟩:=h
      have hv:=hx hp.left
      have h2:(P.underlying fd.type).isSome=true:=hp.right
      cases hv with | agg _ cv hsz hc=>
      have hlt:fd.offset<cv.size:=by rw[hsz]; exact(List.getElem?_eq_some_iff.1 hz).1
      exact⟨cv[fd.offset],by simp[Instr.field,run_underlying ht,hfd,asAgg,part,z1Q h2,htg,hlt],.c (hc _ z _ hz (by simp[hlt]))⟩
     ·cases h
   ·cases h
  ·cases h
 ·cases h
def zil (P:Program) (t:TypeId):List Prop×Av→List Prop×Av→Option (List Prop×Av)
 |(p,.c (.lf (.v (.string s)))),(q,.c (.lf (.v (.int ki i))))=>some ((p++q)++ [P.underlying t=some .string,0≤i,i<(s.size:Int)],lv (.int .u8 ((bs s).getD i.toNat 0)))
 |(p,.ai k l),(q,.c (.lf (.v (.int ki i))))=>
  match P.underlying t with
  | some (.array n e)=>some ((p++q)++ [0≤i,i<(n:Int),n≤l.length,P.cellsOf e=1,(P.underlying e).isSome=true,z2w P e=false],lv (.int k (l.getD i.toNat 0)))
  | _=>none
 | _,_=>none
theorem zf9 {P:Program} {w:World} {t:TypeId} {β:Nat→Option Nat} {F:Nat→Prop} {x y:List Prop×Av} {v u:Value} {ps:List Prop} {z:Av} (h:zil P t x y=some (ps,z)) (hp:z03 ps)
  (hx:z03 x.1→AvR β F w x.2 v) (hy:z03 y.1→AvR β F w y.2 u):∃ r,(Instr.index t v u).run P w= .ok r w∧AvR β F w z r:=by
 obtain⟨p,x⟩:=x
 obtain⟨q,y⟩:=y
 unfold zil at h
 split at h
 ·rename_i s _ _ i h1 h2
  simp only[Prod.mk.injEq] at h1 h2; obtain⟨rfl,rfl⟩:=h1; obtain⟨rfl,rfl⟩:=h2
  simp only[Option.some.injEq,Prod.mk.injEq] at h; obtain⟨rfl,rfl⟩:=h
  obtain rfl:=(hx hp.left.left).val
  obtain rfl:=(hy hp.left.right).val
  obtain⟨c1,c2,c3⟩:=hp.right
  have c3':i<(s.size:Int):=c3
  have hlt:i.toNat<s.size:=by omega
  refine⟨.int .u8 ((bs s).getD i.toNat 0),?_,.c (.lf (.v _ rfl))⟩
  have e1:s[i.toNat]? =some s[i.toNat]:=by simp[hlt]
  have e2:(bs s).getD i.toNat 0=(s[i.toNat].toNat:Int):=by
   have:i.toNat<s.data.size:=hlt
   simp only[bs,List.getD_eq_getElem?_getD,List.getElem?_map,Array.getElem?_toList,ByteArray.getElem_eq_getElem_data]
   rw[Array.getElem?_eq_getElem this]
   rfl
  rw[e2]
  simp[Instr.index,asIntOf,run_underlying c1,c2,e1]
 ·rename_i k l _ _ i h1 h2
  simp only[Prod.mk.injEq] at h1 h2; obtain⟨rfl,rfl⟩:=h1; obtain⟨rfl,rfl⟩:=h2
  split at h
  ·rename_i n e ht
   simp only[Option.some.injEq,Prod.mk.injEq] at h; obtain⟨rfl,rfl⟩:=h
   have hv:=hx hp.left.left
   obtain rfl:=(hy hp.left.right).val
   obtain⟨c1,c2,c3,c4,c5,c6⟩:=hp.right
   have c6':z2w P e=false:=c6
   cases hv with | ai=>
   have hi:(P.info? e).isSome=true:=z0J (by rw[c4]; decide)
   have hlt:i.toNat<l.length:=by omega
   exact⟨.int k (l.getD i.toNat 0),by simp[Instr.index,asIntOf,run_underlying ht,c1,c2,z0M hi,c4,part,z1Q c5,c6',hlt],.c (.lf (.v _ rfl))⟩
  ·cases h
 ·cases h
def z2f:Av→Option (List Cell)
 | .c x=>some [x]
 | .agg xs=>some xs
 | .ai k l=>some (l.map fun x=> .lf (.v (.int k x)))
 | _=>none
theorem z6U {β:Nat→Option Nat} {F:Nat→Prop} {w:World} {x:Av} {v:Value} {cs:List Cell} (h:AvR β F w x v) (hc:z2f x=some cs) (hu:x≠ .c .un):
  v.cells.size=cs.length∧∀(i:Nat) (y:Cell) (u:Value),cs[i]? =some y→v.cells[i]? =some u→CellR β F w y u:=by
 cases h with
 | c h=>
   simp only[z2f,Option.some.injEq] at hc
   subst hc
   have h1:=h.one
   have e:v.cells= #[v]:=by cases v<;>first | rfl | simp[Value.oneCell'] at h1
   rw[e]
   refine⟨rfl,fun i y u hy hu'=>?_⟩
   match i,hy,hu' with
   | 0,hy,hu'=>simp at hy hu'; subst hy; subst hu'; exact h
 | any=>exact absurd rfl hu
 | agg xs cv h1 h=>
   simp only[z2f,Option.some.injEq] at hc
   subst hc
   exact⟨h1,h⟩
 | ai k l=>
   simp only[z2f,Option.some.injEq] at hc
   subst hc
   refine⟨by simp[Value.cells],fun i y u hy hu'=>?_⟩
   simp only[Value.cells,List.getElem?_toArray,List.getElem?_map,Option.map_eq_some_iff] at hy hu'
   obtain⟨a,ha,rfl⟩:=hy
   obtain⟨b,hb,rfl⟩:=hu'
   rw[ha] at hb
   obtain rfl:=Option.some.inj hb
   exact .lf (.v _ rfl)
 | tup=>simp[z2f] at hc
 | cnd=>simp[z2f] at hc
def z3G:Av→Bool | .c .un=>true | _=>false
def z1A (place:Nat→Option (Nat×Nat)) (cells:List Cell):List (Nat×(List Prop×Av))→Option (List Prop×List Cell)
 | []=>some ([],cells)
 |(i,(p,x))::rest=>
  match place i,z2f x with
  | some (off,size),some cs=>
    match z3G x,decide (cs.length=size),decide (off+cs.length≤cells.length) with
    | false,true,true=>match z1A place (cells.take off++cs++cells.drop (off+cs.length)) rest with
      | some (q,r)=>some (p++q,r)
      | none=>none
    | _,_,_=>none
  | _,_=>none
theorem zgg (cs:List Value) (off:Nat):∀(k:Nat) (arr:Array Value),off+k+cs.length≤arr.size→
  (cs.zipIdx k).foldl (fun(a:Array Value) (p:Value×Nat)=>a.setIfInBounds (off+p.2) p.1) arr=(arr.toList.take (off+k)++cs++arr.toList.drop (off+k+cs.length)).toArray:=by
 induction cs with
 | nil=>intro k arr h; simp
 | cons c cs ih=>
   intro k arr h
   simp only[List.length_cons] at h
   simp only[List.zipIdx_cons,List.foldl_cons]
   rw[ih (k+1) _ (by simp; omega)]
   apply Array.ext_getElem?
   intro i
   simp only[List.getElem?_toArray,Array.toList_setIfInBounds,List.length_cons,List.append_assoc,List.getElem?_append,List.length_take,List.length_set,Array.length_toList,List.getElem?_take,List.getElem?_drop,List.getElem?_set]
   have e1:min (off+(k+1)) arr.size=off+(k+1):=by omega
   have e2:min (off+k) arr.size=off+k:=by omega
   rw[e1,e2]
   by_cases h1:i<off+k
   ·simp[h1,show i<off+(k+1) by omega,show ¬ off+k=i by omega]
   ·by_cases h2:i=off+k
    ·subst h2
     simp[show off+k<off+(k+1) by omega,show off+k<arr.size by omega]
    ·have h3:¬ i<off+(k+1):=by omega
     obtain⟨d,rfl⟩:∃ d,i=off+k+1+d:=⟨i -(off+k+1),by omega⟩
     simp only[h1,h3,if_false]
     rw[show off+k+1+d -(off+(k+1))=d by omega,show off+k+1+d -(off+k)=d+1 by omega]
     simp only[Nat.add_lt_add_iff_right,List.getElem?_cons_succ,Nat.add_sub_add_right]
     rw[show off+(k+1)+cs.length+(d -cs.length)=off+k+(cs.length+1)+(d -cs.length) by omega]
     split
     ·rfl
     ·rw[if_neg (by omega)]
def z5I (β:Nat→Option Nat) (F:Nat→Prop) (w:World):List (Nat×(List Prop×Av))→List (Nat×Value)→Prop
 | [],[]=>True
 |(i,(p,x))::r,(j,v)::s=>i=j∧(z03 p→AvR β F w x v)∧z5I β F w r s
 | _,_=>False
theorem z43 {β:Nat→Option Nat} {F:Nat→Prop} {w:World} {place:Nat→Option (Nat×Nat)}:∀(parts:List (Nat×(List Prop×Av))) (vals:List (Nat×Value)) (cells:List Cell) (cv:Array Value) (ps:List Prop) (out:List Cell),
  z1A place cells parts=some (ps,out)→z03 ps→cv.size=cells.length→(∀(i:Nat) (y:Cell) (u:Value),cells[i]? =some y→cv[i]? =some u→CellR β F w y u)→
  z5I β F w parts vals→
  ∃ r:Array Value,Instr.fill place cv vals=some r∧r.size=out.length∧∀(i:Nat) (y:Cell) (u:Value),out[i]? =some y→r[i]? =some u→CellR β F w y u
 | [],vals,cells,cv,ps,out,h,hp,hsz,hc,hf=>by
   cases vals with
   | cons=>exact hf.elim
   | nil=>
     simp only[z1A,Option.some.injEq,Prod.mk.injEq] at h
     obtain⟨_,rfl⟩:=h
     exact⟨cv,rfl,hsz,hc⟩
 |(i,(p,x))::rest,vals,cells,cv,ps,out,h,hp,hsz,hc,hf=>by
  cases vals with | nil=>exact hf.elim | cons b vals=>
  obtain⟨j,v⟩:=b
  obtain⟨rfl,hx,hf⟩:=hf
  simp only[z1A] at h
  split at h
  ·rename_i off size cs e1 e2
   split at h
   ·rename_i e3 e4 e5
    split at h
    ·rename_i q r e6
     simp only[Option.some.injEq,Prod.mk.injEq] at h
     obtain⟨rfl,rfl⟩:=h
     have hu:x≠ .c .un:=by intro h; subst h; simp[z3G] at e3
     obtain⟨k1,k2⟩:=z6U (hx hp.left) e2 hu
     have e4':cs.length=size:=by simpa using e4
     have e5':off+cs.length≤cells.length:=by simpa using e5
     have hfold:=zgg v.cells.toList off 0 cv (by simp; omega)
     have hz:v.cells.zipIdx.foldl (fun(a:Array Value) (p:Value×Nat)=>a.setIfInBounds (off+p.2) p.1) cv=(cv.toList.take off++v.cells.toList++cv.toList.drop (off+v.cells.size)).toArray:=by
      rw[←Array.foldl_toList,Array.toList_zipIdx]
      simpa using hfold
     obtain⟨R,g1,g2,g3⟩:=z43 rest vals _ (cv.toList.take off++v.cells.toList++cv.toList.drop (off+v.cells.size)).toArray q r e6 hp.right (by simp; omega) (fun i y u hy hu'=>by
      simp only[List.getElem?_toArray,List.append_assoc] at hu'
      simp only[List.append_assoc] at hy
      by_cases a1:i<off
      ·rw[List.getElem?_append_left (by simp; omega)] at hy hu'
       rw[List.getElem?_take] at hy hu'
       simp only[a1,if_true] at hy hu'
       exact hc i y u hy (by simpa using hu')
      ·rw[List.getElem?_append_right (by simp; omega)] at hy hu'
       have ea:min off cells.length=off:=by omega
       have eb:min off cv.size=off:=by omega
       simp only[List.length_take,ea] at hy
       simp only[List.length_take,Array.length_toList,eb] at hu'
       by_cases a2:i -off<cs.length
       ·rw[List.getElem?_append_left a2] at hy
        rw[List.getElem?_append_left (by simp; omega)] at hu'
        exact k2 _ y u hy (by simpa using hu')
       ·rw[List.getElem?_append_right (by omega)] at hy
        rw[List.getElem?_append_right (by simp; omega)] at hu'
        rw[List.getElem?_drop] at hy hu'
        simp only[Array.length_toList,k1] at hu'
        exact hc _ y u hy (by simpa using hu')) hf
     refine⟨R,?_,g2,g3⟩
     simp only[Instr.fill,e1]
     rw[if_neg (by simp; omega),hz]
     exact g1
    ·cases h
   ·cases h
  ·cases h
end Go.Sx
namespace Go.Sx
open Go
set_option linter.unusedVariables false
def z68 (P:Program) (t:TypeId):Option (List Cell):=
 match P.info? t with
 | some i=>match i.zero with | some z=>some (z.cells.toList.map fun x=> .lf (.v x)) | none=>none
 | none=>none
def z01 (P:Program) (t:TypeId):Prop:=∀ i z,P.info? t=some i→i.zero=some z→z.cells.toList.all (·.oneCell')=true
theorem z6t {P:Program} {t:TypeId} {cs:List Cell} (h:z68 P t=some cs) (hz:z01 P t) (β:Nat→Option Nat) (F:Nat→Prop) (w:World):
  ∃ z,(zeroValue t).run P w= .ok z w∧z.cells.size=cs.length∧∀(i:Nat) (y:Cell) (u:Value),cs[i]? =some y→z.cells[i]? =some u→CellR β F w y u:=by
 unfold z68 at h
 split at h
 ·rename_i i hi
  split at h
  ·rename_i z hz'
   simp only[Option.some.injEq] at h
   subst h
   refine⟨z,by simp[zeroValue,typeInfo,hi,hz'],by simp,fun j y u hy hu=>?_⟩
   simp only[List.getElem?_map,Option.map_eq_some_iff] at hy
   obtain⟨x,hx,rfl⟩:=hy
   have:z.cells[j]? =some x:=by simpa using hx
   rw[this] at hu
   obtain rfl:=Option.some.inj hu
   exact .lf (.v _ (List.all_eq_true.1 (hz i z hi hz') x (List.mem_of_getElem? hx)))
  ·cases h
 ·cases h
def zc7 (P:Program) (t:TypeId) (parts:List (Nat×(List Prop×Av))):Option (List Prop×Av):=
 match P.underlying t,z68 P t with
 | some (.struct fs),some cs=>
   match z1A (fun i=>match fs[i]? with | some f=>some (f.offset,P.cellsOf f.type) | none=>none) cs parts with
   | some (ps,out)=>some (ps++ [z01 P t,∀ f ∈ fs.toList,(P.info? f.type).isSome=true],.agg out)
   | none=>none
 | _,_=>none
theorem zdF {P:Program} {w:World} (fs:List Field) (h:∀ f ∈ fs,(P.info? f.type).isSome=true):
  (fs.mapM (m:=Sem) fun f=>do pure (f.offset,←sizeOf f.type)).run P w= .ok (fs.map fun f=>(f.offset,P.cellsOf f.type)) w:=by
 induction fs with
 | nil=>simp only[List.mapM_nil,Sem.run_pure,List.map_nil]
 | cons f fs ih=>
   simp only[List.mapM_cons,Sem.run_bind,z0M (h f (List.mem_cons_self ..)),Result.andThen_ok,Sem.run_pure,ih (fun g hg=>h g (List.mem_cons_of_mem _ hg)),List.map_cons]
theorem zc8 {P:Program} {w:World} {t:TypeId} {β:Nat→Option Nat} {F:Nat→Prop} {parts:List (Nat×(List Prop×Av))} {vals:List (Nat×Value)} {ps:List Prop} {y:Av} (h:zc7 P t parts=some (ps,y)) (hp:z03 ps)
  (hv:z5I β F w parts vals):∃ z,(Instr.build t vals.toArray).run P w= .ok z w∧AvR β F w y z:=by
 unfold zc7 at h
 split at h
 ·rename_i fs cs ht hz
  split at h
  ·rename_i qs out hf
   simp only[Option.some.injEq,Prod.mk.injEq] at h
   obtain⟨rfl,rfl⟩:=h
   obtain⟨c1,c2⟩:=hp.right
   have c2':∀ f ∈ fs.toList,(P.info? f.type).isSome=true:=c2
   obtain⟨z,hz1,hz2,hz3⟩:=z6t hz c1 β F w
   obtain⟨r,g1,g2,g3⟩:=z43 parts vals cs z.cells qs out hf hp.left hz2 hz3 hv
   have e:(fs.mapM (m:=Sem) fun f=>do pure (f.offset,←sizeOf f.type)).run P w= .ok (fs.map fun f=>(f.offset,P.cellsOf f.type)) w:=by
    rw[Array.mapM_eq_mapM_toList]
    simp only[Sem.run_map,zdF fs.toList c2',Result.andThen_ok]
    congr 1
    apply Array.toList_inj.1
    simp
   have hpl:(fun(i:Nat)=>(fs.map fun(f:Field)=>(f.offset,P.cellsOf f.type))[i]?)=(fun i=>match fs[i]? with | some f=>some (f.offset,P.cellsOf f.type) | none=>none):=by
    funext i
    simp only[Array.getElem?_map]
    cases fs[i]? <;>rfl
   refine⟨.agg r,?_,.agg _ _ g2 g3⟩
   simp only[Instr.build,Sem.run_bind,hz1,Result.andThen_ok,run_underlying ht,e]
   simp only[hpl,g1]
   rfl
  ·cases h
 ·cases h
def z6C:List (List Prop×Av)→Option (List Prop×List Cell)
 | []=>some ([],[])
 |(p,.c x)::rest=>
  match z3G (.c x),z6C rest with
  | false,some (q,xs)=>some (p++q,x::xs)
  | _,_=>none
 | _::_=>none
def zfa (β:Nat→Option Nat) (F:Nat→Prop) (w:World):List (List Prop×Av)→List Value→Prop
 | [],[]=>True
 |(p,x)::r,v::s=>(z03 p→AvR β F w x v)∧zfa β F w r s
 | _,_=>False
theorem z5J {β:Nat→Option Nat} {F:Nat→Prop} {w:World}:∀(xs:List (List Prop×Av)) (vs:List Value) (ps:List Prop) (cs:List Cell),z6C xs=some (ps,cs)→z03 ps→zfa β F w xs vs→
  vs.length=cs.length∧∀(i:Nat) (y:Cell) (u:Value),cs[i]? =some y→vs[i]? =some u→CellR β F w y u
 | [],vs,ps,cs,h,hp,hv=>by
   cases vs with
   | cons=>exact hv.elim
   | nil=>
     simp only[z6C,Option.some.injEq,Prod.mk.injEq] at h
     obtain⟨_,rfl⟩:=h
     exact⟨rfl,fun i y u hy=>by simp at hy⟩
 |(p,x)::rest,vs,ps,cs,h,hp,hv=>by
  cases vs with | nil=>exact hv.elim | cons v vs=>
  obtain⟨hx,hv⟩:=hv
  cases x<;>simp only[z6C] at h
  ·rename_i x
   split at h
   ·rename_i q xs e1 e2
    simp only[Option.some.injEq,Prod.mk.injEq] at h
    obtain⟨rfl,rfl⟩:=h
    obtain⟨k1,k2⟩:=z5J rest vs q xs e2 hp.right hv
    refine⟨by simp[k1],fun i y u hy hu=>?_⟩
    match i,hy,hu with
    | 0,hy,hu=>
      simp at hy hu
      subst hy; subst hu
      have:=hx hp.left
      cases this with
      | c h=>exact h
      | any=>simp[z3G] at e1
    | i+1,hy,hu=>exact k2 i y u (by simpa using hy) (by simpa using hu)
   ·cases h
  all_goals cases h
def zoT (f:Fn) (first cap:List (List Prop×Av)):Option (List Prop×Av):=
 match z6C first,z6C cap with
 | some (p,xs),some (q,ys)=>some (p++q,.c (.fn f xs ys))
 | _,_=>none
def ox (σ:St) (x:Operand):List Prop×Av:=str (ev σ x)
def z1M (nw:Bool) (P:Program) (σ:St) (o:Oper):Option (List Prop×Av):=
 match o.op with
 | .move x=>some (ox σ x)
 | .assign x=>some (ox σ x)
 | .pick c a b=>zf1 (ox σ c) (ox σ a) (ox σ b)
 | .binOp op t x y _=>zif nw P op t (ox σ x) (ox σ y)
 | .unOp op _ x=>unP nw op (ox σ x)
 | .convert s d x=>zig nw P s d (ox σ x)
 | .load t x=>z9v P σ t (ox σ x)
 | .nilCheck x=>zih (ox σ x)
 | .makeFunc f first cap=>zoT f (first.toList.map (ox σ)) (cap.toList.map (ox σ))
 | .slice t x lo hi mx=>zc5 P σ t (ox σ x) (lo.map (ox σ)) (hi.map (ox σ)) (mx.map (ox σ))
 | .fieldAddr s x f=>zc1 P s f (ox σ x)
 | .field t x f=>zik P t f (ox σ x)
 | .indexAddr t x i=>zc3 P σ t (ox σ x) (ox σ i)
 | .index t x i=>zil P t (ox σ x) (ox σ i)
 | .extract x i=>zij i (ox σ x)
 | .build t parts=>zc7 P t (parts.toList.map fun(i,x)=>(i,ox σ x))
 | .call c=>
   match c.callee,c.args.toList,c.argTypes.toList with
   | .builtin .len,[x],[t]=>lenP P t (ox σ x)
   | .builtin .min,[x,y],_=>mmP false (ox σ x) (ox σ y)
   | .builtin .max,[x,y],_=>mmP true (ox σ x) (ox σ y)
   | _,_,_=>none
 | _=>none
theorem oxR {E:Env} {β:Nat→Option Nat} {F:Nat→Prop} {σ:St} {a:Act} {w:World} (h:SRb E β F σ a w) (x:Operand):z03 (ox σ x).1→AvR β F w (ox σ x).2 (a.eval x):=
 fun hp=>zoS (h.ev x) rfl hp
theorem z7F {E:Env} {β:Nat→Option Nat} {F:Nat→Prop} {σ:St} {a:Act} {w:World} (h:SRb E β F σ a w):∀ l:List Operand,zfa β F w (l.map (ox σ)) (l.map a.eval)
 | []=>trivial
 | x::l=>⟨oxR h x,z7F h l⟩
theorem z4r {E:Env} {β:Nat→Option Nat} {F:Nat→Prop} {σ:St} {a:Act} {w:World} (h:SRb E β F σ a w):∀ l:List (Nat×Operand),z5I β F w (l.map fun(i,x)=>(i,ox σ x)) (l.map fun(i,x)=>(i,a.eval x))
 | []=>trivial
 |(i,x)::l=>⟨rfl,oxR h x,z4r h l⟩
theorem z94 {E:Env} {β:Nat→Option Nat} {F:Nat→Prop} {σ:St} {a:Act} {w:World} (h:SRb E β F σ a w) (x:Option Operand):zf5 β F w (x.map (ox σ)) (x.map a.eval):=by
 cases x with
 | none=>exact .inl ⟨rfl,rfl⟩
 | some x=>exact .inr ⟨_,_,_,rfl,rfl,oxR h x⟩
theorem z2x {P:Program} {w:World} {s:Sem Value} {z:Value} (h:s.run P w= .ok z w):(do pure (Next.value (←s)):Sem Next).run P w= .ok (.value z) w:=by
 rw[Sem.run_bind,h]; rfl
theorem z4s {nw:Bool} {P:Program} {E:Env} {σ:St} {a:Act} {w:World} {β:Nat→Option Nat} {F:Nat→Prop} {o:Oper} {ps:List Prop} {y:Av} (h:z1M nw P σ o=some (ps,y)) (hp:z03 ps) (hS:SRb E β F σ a w):
  ∃ z,(execOp a.eval o).run P w= .ok (.value z) w∧AvR β F w y z:=by
 unfold z1M at h
 split at h
 ·rename_i x ho
  simp only[Option.some.injEq] at h
  exact⟨a.eval x,by simp[execOp,ho],by have:=oxR hS x; rw[h] at this; exact this hp⟩
 ·rename_i x ho
  simp only[Option.some.injEq] at h
  exact⟨a.eval x,by simp[execOp,ho],by have:=oxR hS x; rw[h] at this; exact this hp⟩
 ·rename_i c x y ho
  obtain⟨z,h1,h2⟩:=zdE (P:=P) (w:=w) (β:=β) (F:=F) h hp (oxR hS c) (oxR hS x) (oxR hS y)
  exact⟨z,by simp only[execOp,ho]; exact h1,h2⟩
 ·rename_i op t x y _ ho
  obtain⟨z,h1,h2⟩:=zf2 h hp (oxR hS x) (oxR hS y) x y
  exact⟨z,by simp only[execOp,ho]; exact z2x h1,h2⟩
 ·rename_i op _ x ho
  obtain⟨z,h1,h2⟩:=zgf (P:=P) (w:=w) h hp (oxR hS x)
  exact⟨z,by simp only[execOp,ho]; exact z2x h1,h2⟩
 ·rename_i s d x ho
  obtain⟨z,h1,h2⟩:=zf3 h hp (oxR hS x)
  exact⟨z,by simp only[execOp,ho]; exact z2x h1,h2⟩
 ·rename_i t x ho
  obtain⟨z,h1,h2⟩:=z8P h hp hS (oxR hS x)
  exact⟨z,by simp only[execOp,ho]; exact z2x h1,h2⟩
 ·rename_i x ho
  exact zf4 h hp (oxR hS x) ho
 ·rename_i f first cap ho
  unfold zoT at h
  split at h
  ·rename_i p xs q ys e1 e2
   simp only[Option.some.injEq,Prod.mk.injEq] at h
   obtain⟨rfl,rfl⟩:=h
   obtain⟨k1,k2⟩:=z5J _ _ _ _ e1 hp.left (z7F hS first.toList)
   obtain⟨k3,k4⟩:=z5J _ _ _ _ e2 hp.right (z7F hS cap.toList)
   refine⟨.func f (first.map a.eval) (cap.map a.eval),by simp[execOp,ho,Instr.makeFunc],.c (.fn _ _ _ _ _ (by simpa using k1) (by simpa using k3) (fun i x v hx hv=>k2 i x v hx ?_) (fun i x v hx hv=>k4 i x v hx ?_))⟩
   ·simpa using hv
   ·simpa using hv
  ·cases h
 ·rename_i t x lo hi mx ho
  obtain⟨z,h1,h2⟩:=zc6 h hp hS (oxR hS x) (z94 hS lo) (z94 hS hi) (z94 hS mx)
  exact⟨z,by simp only[execOp,ho]; exact z2x h1,h2⟩
 ·rename_i s x f ho
  obtain⟨z,h1,h2⟩:=zc2 h hp (oxR hS x)
  exact⟨z,by simp only[execOp,ho]; exact z2x h1,h2⟩
 ·rename_i t x f ho
  obtain⟨z,h1,h2⟩:=zf8 h hp (oxR hS x)
  exact⟨z,by simp only[execOp,ho]; exact z2x h1,h2⟩
 ·rename_i t x i ho
  obtain⟨z,h1,h2⟩:=zc4 h hp (oxR hS x) (oxR hS i)
  exact⟨z,by simp only[execOp,ho]; exact z2x h1,h2⟩
 ·rename_i t x i ho
  obtain⟨z,h1,h2⟩:=zf9 h hp (oxR hS x) (oxR hS i)
  exact⟨z,by simp only[execOp,ho]; exact z2x h1,h2⟩
 ·rename_i x i ho
  obtain⟨z,h1,h2⟩:=zf7 (P:=P) (w:=w) h hp (oxR hS x)
  exact⟨z,by simp only[execOp,ho]; exact z2x h1,h2⟩
 ·rename_i t parts ho
  obtain⟨z,h1,h2⟩:=zc8 h hp (z4r hS parts.toList)
  refine⟨z,?_,h2⟩
  simp only[execOp,ho]
  refine z2x ?_
  have e:(parts.map fun x=>(x.1,a.eval x.2))=(parts.toList.map fun(i,x)=>(i,a.eval x)).toArray:=by
   apply Array.toList_inj.1
   simp
  rw[←e] at h1
  exact h1
 ·rename_i c ho
  split at h
  ·rename_i x t e1 e2 e3
   obtain⟨z,h1,h2⟩:=zf6 (w:=w) (ty:=o.type) h hp (oxR hS x)
   refine⟨z,?_,h2⟩
   have e2':c.args= #[x]:=by apply Array.toList_inj.1; simpa using e2
   have e3':c.argTypes= #[t]:=by apply Array.toList_inj.1; simpa using e3
   simp only[execOp,ho,resolve,e1,e2',e3',Sem.run_bind,Sem.run_pure,Result.andThen_ok,invoke,builtin]
   simp only[List.map_toArray,List.map_cons,List.map_nil,h1,Result.andThen_ok]
  ·rename_i tl x y e1 e2
   obtain⟨z,h1,h2⟩:=zaM (P:=P) (w:=w) (ts:=c.argTypes) (ty:=o.type) h hp (oxR hS x) (oxR hS y)
   refine⟨z,?_,h2⟩
   have e2':c.args= #[x,y]:=by apply Array.toList_inj.1; simpa using e2
   simp only[execOp,ho,resolve,e1,e2',Sem.run_bind,Sem.run_pure,Result.andThen_ok,invoke,builtin]
   simp only[Bool.false_eq_true,if_false] at h1
   simp only[List.map_toArray,List.map_cons,List.map_nil,h1,Result.andThen_ok]
  ·rename_i tl x y e1 e2
   obtain⟨z,h1,h2⟩:=zaM (P:=P) (w:=w) (ts:=c.argTypes) (ty:=o.type) h hp (oxR hS x) (oxR hS y)
   refine⟨z,?_,h2⟩
   have e2':c.args= #[x,y]:=by apply Array.toList_inj.1; simpa using e2
   simp only[execOp,ho,resolve,e1,e2',Sem.run_bind,Sem.run_pure,Result.andThen_ok,invoke,builtin]
   simp only[if_true] at h1
   simp only[List.map_toArray,List.map_cons,List.map_nil,h1,Result.andThen_ok]
  ·cases h
 ·cases h
end Go.Sx
namespace Go.Sx
open Go
set_option linter.unusedVariables false
def Cell.kill1 (j:Nat):Cell→Cell
 | .own i sz off len=>match decide (i=j) with | true=> .un | false=> .own i sz off len
 | .ptr i off=>match decide (i=j) with | true=> .un | false=> .ptr i off
 | .pel i sz e k=>match decide (i=j) with | true=> .un | false=> .pel i sz e k
 | .tptr i t=>match decide (i=j) with | true=> .un | false=> .tptr i t
 | .town i off len t=>match decide (i=j) with | true=> .un | false=> .town i off len t
 | .map i=>match decide (i=j) with | true=> .un | false=> .map i
 | .fn _ (_::_) _=> .un
 | .fn _ _ (_::_)=> .un
 | x=>x
def Cell.kill (j:Nat):Cell→Cell
 | .fn f first cap=> .fn f (first.map (Cell.kill1 j)) (cap.map (Cell.kill1 j))
 | x=>x.kill1 j
def Av.kill1 (j:Nat):Av→Av
 | .c x=> .c (x.kill j)
 | .agg xs=> .agg (xs.map (Cell.kill j))
 | .ai k l=> .ai k l
 | _=> .c .un
def Av.kill (j:Nat):Av→Av
 | .tup xs=> .tup (xs.map (Av.kill1 j))
 | .cnd g x=>match x with | .tup _=> .c .un | .cnd _ _=> .c .un | x=> .cnd g (x.kill1 j)
 | x=>x.kill1 j
def Blk.kill (j:Nat):Blk→Blk
 | .cells cs=> .cells (cs.map (Cell.kill j))
 | .fr vs cs=> .fr vs (cs.map (Cell.kill j))
 | b=>b
def St.kill (σ:St) (j:Nat):St:=⟨fun i=>(σ.tm i).kill j,fun i=>match decide (i=j) with | true=> .gone | false=>(σ.hp i).kill j⟩
theorem CellR.kill1 {β β':Nat→Option Nat} {F:Nat→Prop} {w:World} {j:Nat} (hβ:∀ i,i≠j→β' i=β i) {x:Cell} {v:Value} (h:CellR β F w x v):CellR β' F w (x.kill1 j) v:=by
 cases h with
 | lf h=>exact .lf h
 | un h=>exact .un h
 | own i sz off len a c hc hm h=>
   by_cases hi:i=j
   ·simp only[Cell.kill1,hi,decide_true]; exact .un rfl
   ·simp only[Cell.kill1,hi,decide_false]
    exact .own _ _ _ _ _ _ hc hm (by rw[hβ i hi]; exact h)
 | ptr i off g h=>
   by_cases hi:i=j
   ·simp only[Cell.kill1,hi,decide_true]; exact .un rfl
   ·simp only[Cell.kill1,hi,decide_false]; exact .ptr _ _ _ (by rw[hβ i hi]; exact h)
 | pel i sz e k g h=>
   by_cases hi:i=j
   ·simp only[Cell.kill1,hi,decide_true]; exact .un rfl
   ·simp only[Cell.kill1,hi,decide_false]; exact .pel _ _ _ _ _ (by rw[hβ i hi]; exact h)
 | tptr i t g h ht=>
   by_cases hi:i=j
   ·simp only[Cell.kill1,hi,decide_true]; exact .un rfl
   ·simp only[Cell.kill1,hi,decide_false]; exact .tptr _ _ _ (by rw[hβ i hi]; exact h) ht
 | map i g h=>
   by_cases hi:i=j
   ·simp only[Cell.kill1,hi,decide_true]; exact .un rfl
   ·simp only[Cell.kill1,hi,decide_false]; exact .map _ _ (by rw[hβ i hi]; exact h)
 | town i off len t a c hc hm h=>
   by_cases hi:i=j
   ·simp only[Cell.kill1,hi,decide_true]; exact .un rfl
   ·simp only[Cell.kill1,hi,decide_false]
    exact .town _ _ _ _ _ _ hc hm (by rw[hβ i hi]; exact h)
 | fn f first cap fv cv h1 h2 h3 h4=>
   cases first with
   | cons=>exact .un rfl
   | nil=>
     cases cap with
     | cons=>exact .un rfl
     | nil=>exact .fn _ _ _ _ _ h1 h2 (fun i x v hx=>by simp at hx) (fun i x v hx=>by simp at hx)
 | bnd f xs cs h1 h=>exact .bnd f xs cs h1 h
theorem CellR.kill {β β':Nat→Option Nat} {F:Nat→Prop} {w:World} {j:Nat} (hβ:∀ i,i≠j→β' i=β i) {x:Cell} {v:Value} (h:CellR β F w x v):CellR β' F w (x.kill j) v:=by
 have h':=h
 cases h with
 | fn f first cap fv cv h1 h2 h3 h4=>
   refine .fn _ _ _ _ _ (by simpa using h1) (by simpa using h2) (fun i x v hx hv=>?_) (fun i x v hx hv=>?_)
   ·rw[List.getElem?_map,Option.map_eq_some_iff] at hx
    obtain⟨y,hy,rfl⟩:=hx
    exact(h3 i y v hy hv).kill1 hβ
   ·rw[List.getElem?_map,Option.map_eq_some_iff] at hx
    obtain⟨y,hy,rfl⟩:=hx
    exact(h4 i y v hy hv).kill1 hβ
 | _=>exact h'.kill1 hβ
theorem AvR.kill1 {β β':Nat→Option Nat} {F:Nat→Prop} {w:World} {j:Nat} (hβ:∀ i,i≠j→β' i=β i) {x:Av} {v:Value} (h:AvR β F w x v):AvR β' F w (x.kill1 j) v:=by
 cases h with
 | c h=>exact .c (h.kill hβ)
 | any=>exact .any _
 | agg xs cs h1 h=>
   refine .agg _ _ (by simpa using h1) fun i x v hx hv=>?_
   rw[List.getElem?_map,Option.map_eq_some_iff] at hx
   obtain⟨y,hy,rfl⟩:=hx
   exact(h i y v hy hv).kill hβ
 | ai k l=>exact .ai k l
 | tup=>exact .any _
 | cnd=>exact .any _
theorem AvR.kill {β β':Nat→Option Nat} {F:Nat→Prop} {w:World} {j:Nat} (hβ:∀ i,i≠j→β' i=β i) {x:Av} {v:Value} (h:AvR β F w x v):AvR β' F w (x.kill j) v:=by
 have h':=h
 cases h with
 | tup xs cs h1 h=>
   refine .tup _ _ (by simpa using h1) fun i x v hx hv=>?_
   rw[List.getElem?_map,Option.map_eq_some_iff] at hx
   obtain⟨y,hy,rfl⟩:=hx
   exact(h i y v hy hv).kill1 hβ
 | cnd g x v h h0=>
   cases x with
   | tup=>exact .any _
   | cnd=>exact .any _
   | c=>exact .cnd _ _ _ (fun hg=>(h hg).kill1 hβ) h0
   | agg=>exact .cnd _ _ _ (fun hg=>(h hg).kill1 hβ) h0
   | ai=>exact .cnd _ _ _ (fun hg=>(h hg).kill1 hβ) h0
 | _=>exact h'.kill1 hβ
theorem z0p.kill {β β':Nat→Option Nat} {F:Nat→Prop} {w:World} {j i:Nat} (hβ:∀ i,i≠j→β' i=β i) (hi:i≠j) {b:Blk} (h:z0p β F w i b):z0p β' F w i (b.kill j):=by
 cases b with
 | gone=>trivial
 | cells cs=>
   obtain⟨g,cur,hg,hr,hsz,hc⟩:=h
   refine⟨g,cur,(hβ i hi).trans hg,hr,by simpa using hsz,fun k x v hx hv=>?_⟩
   rw[List.getElem?_map,Option.map_eq_some_iff] at hx
   obtain⟨y,hy,rfl⟩:=hx
   exact(hc k y v hy hv).kill hβ
 | fr vs cs=>
   obtain⟨g,cur,hg,hr,hsz,hc⟩:=h
   refine⟨g,cur,(hβ i hi).trans hg,hr,by simpa using hsz,fun k x v hx hv=>?_⟩
   rw[List.getElem?_map,Option.map_eq_some_iff] at hx
   obtain⟨y,hy,rfl⟩:=hx
   exact(hc k y v hy hv).kill hβ
 | map es=>
   obtain⟨g,ms,ck,hg,h⟩:=h
   exact⟨g,ms,ck,(hβ i hi).trans hg,h⟩
 | raw g ob=>
   obtain⟨hg,h⟩:=h
   exact⟨(hβ i hi).trans hg,h⟩
 | mapS g ms ck es=>
   obtain⟨hg,h⟩:=h
   exact⟨(hβ i hi).trans hg,h⟩
 | row d=>
   cases d with
   | ints k l=>simpa[z0p,Blk.kill,hβ i hi] using h
   | recs sz l=>simpa[z0p,Blk.kill,hβ i hi] using h
   | v=>exact h
   | obj=>exact h
theorem Blk.kill_ne {b:Blk} {j:Nat} (h:b.kill j≠ .gone):b≠ .gone:=by intro h'; subst h'; exact h rfl
theorem SRb.kill {E:Env} {β:Nat→Option Nat} {F:Nat→Prop} {σ:St} {a:Act} {w:World} (h:SRb E β F σ a w) (j:Nat) (hjb:E.nb≤j):
  SRb E (fun i=>if i=j then none else β i) F (σ.kill j) a w:=by
 have hβ:∀ i,i≠j→(if i=j then none else β i)=β i:=fun i hi=>if_neg hi
 have hne:∀ i,(σ.kill j).hp i≠ .gone→i≠j∧σ.hp i≠ .gone:=by
  intro i hi
  by_cases hij:i=j
  ·simp[St.kill,hij] at hi
  ·refine⟨hij,?_⟩
   simp only[St.kill,hij,decide_false] at hi
   exact Blk.kill_ne hi
 refine⟨fun i=>(h.tm i).kill hβ,h.sz,h.df,fun i=>?_,fun i k g hi hk e1 e2=>?_,fun i g hi e=>?_,fun i g e=>?_,h.fr,h.keep,fun i hi=>(hβ i (by omega)).trans (h.bb i hi),h.nbl⟩
 ·by_cases hij:i=j
  ·simp only[St.kill,hij,decide_true]; trivial
  ·simp only[St.kill,hij,decide_false]
   exact(h.hp i).kill hβ hij
 ·obtain⟨a1,a2⟩:=hne i hi
  obtain⟨b1,b2⟩:=hne k hk
  rw[if_neg a1] at e1
  rw[if_neg b1] at e2
  exact h.inj i k g a2 b2 e1 e2
 ·obtain⟨a1,a2⟩:=hne i hi
  rw[if_neg a1] at e
  exact h.own i g a2 e
 ·by_cases hij:i=j
  ·simp[hij] at e
  ·rw[if_neg hij] at e; exact h.lt i g e
theorem SRb.drop {E:Env} {β:Nat→Option Nat} {F:Nat→Prop} {σ:St} {a:Act} {w:World} (h:SRb E β F σ a w) (j:Nat):SRb E β F (σ.kill j) a w:=by
 have hβ:∀ i,i≠j→β i=β i:=fun i hi=>rfl
 have hne:∀ i,(σ.kill j).hp i≠ .gone→i≠j∧σ.hp i≠ .gone:=by
  intro i hi
  by_cases hij:i=j
  ·simp[St.kill,hij] at hi
  ·refine⟨hij,?_⟩
   simp only[St.kill,hij,decide_false] at hi
   exact Blk.kill_ne hi
 refine⟨fun i=>(h.tm i).kill hβ,h.sz,h.df,fun i=>?_,fun i k g hi hk e1 e2=>h.inj i k g (hne i hi).2 (hne k hk).2 e1 e2,fun i g hi e=>h.own i g (hne i hi).2 e,h.lt,h.fr,h.keep,h.bb,h.nbl⟩
 by_cases hij:i=j
 ·simp only[St.kill,hij,decide_true]; trivial
 ·simp only[St.kill,hij,decide_false]
  exact(h.hp i).kill hβ hij
theorem z0p.mono {β β':Nat→Option Nat} {F:Nat→Prop} {w w':World} {i:Nat} (hβ:∀ j g,β j=some g→β' j=some g) (hi:β' i=β i) (hF:∀ b,F b→w'.heap[b]? =w.heap[b]?)
  (hC:∀ g n,z0X w g n→z0X w' g n) (hg:∀ g,β i=some g→w'.heap[g]? =w.heap[g]?) {b:Blk} (h:z0p β F w i b):z0p β' F w' i b:=by
 have hR:∀ g cur,β i=some g→Row w g cur→Row w' g cur:=by
  rintro g cur hg' ⟨t,fr,h1,h2⟩
  exact⟨t,fr,(hg g hg').trans h1,h2⟩
 cases b with
 | gone=>trivial
 | cells cs=>
   obtain⟨g,cur,hg',hr,hsz,hc⟩:=h
   exact⟨g,cur,hi.trans hg',hR g cur hg' hr,hsz,fun k x v hx hv=>(hc k x v hx hv).mono hβ (fun b hb=>⟨hb,hF b hb⟩) hC⟩
 | fr vs cs=>
   obtain⟨g,cur,hg',hr,hsz,hc⟩:=h
   exact⟨g,cur,hi.trans hg',hR g cur hg' hr,hsz,fun k x v hx hv=>(hc k x v hx hv).mono hβ (fun b hb=>⟨hb,hF b hb⟩) hC⟩
 | map es=>
   obtain⟨g,ms,ck,hg',h1,h2,h3⟩:=h
   exact⟨g,ms,ck,hi.trans hg',(hg g hg').trans h1,h2,fun i k x hx=>let ⟨e,q1,q2,q3⟩:=h3 i k x hx; ⟨e,q1,q2,q3.mono fun b hb=>⟨hb,hF b hb⟩⟩⟩
 | raw g ob=>
   obtain⟨hg',h1⟩:=h
   exact⟨hi.trans hg',(hg _ hg').trans h1⟩
 | mapS g ms ck es=>
   obtain⟨hg',h1,h2,h3⟩:=h
   exact⟨hi.trans hg',(hg _ hg').trans h1,h2,fun i k x hx=>let ⟨e,q1,q2,q3⟩:=h3 i k x hx; ⟨e,q1,q2,q3.mono fun b hb=>⟨hb,hF b hb⟩⟩⟩
 | row d=>
   cases d with
   | ints k l=>
     rcases h with ⟨h1,h2⟩ |⟨g,cur,hg',hr,hc⟩
     ·exact .inl ⟨h1,fun g hg=>hC _ _ (h2 g (hi▸hg))⟩
     ·exact .inr ⟨g,cur,hi.trans hg',hR g cur hg' hr,hc⟩
   | recs sz l=>
     refine⟨h.1,?_⟩
     rcases h.2 with ⟨h1,h2⟩ |⟨g,cur,hg',hr,hc⟩
     ·exact .inl ⟨h1,fun g hg=>hC _ _ (h2 g (hi▸hg))⟩
     ·refine .inr ⟨g,cur,hi.trans hg',hR g cur hg' hr,fun i r k x hx hk=>?_⟩
      obtain⟨v,hv,hl⟩:=hc i r k x hx hk
      exact⟨v,hv,hl.mono fun b hb=>⟨hb,hF b hb⟩⟩
   | v=>exact h
   | obj=>exact h
theorem z0X.lt {w:World} {g:Nat} {n:CapIx} (h:z0X w g n):g<w.heap.size:=by
 have key:∀ o,w.heap[g]? =some o→g<w.heap.size:=fun o h=>by
  rcases Nat.lt_or_ge g w.heap.size with h' | h'
  ·exact h'
  ·simp[Array.getElem?_eq_none h'] at h
 cases n with
 | sz n=>
   obtain⟨cur,⟨t,fr,h,_⟩,_⟩:=h
   exact key _ h
 | tag t=>
   obtain⟨cur,fr,h⟩:=h
   exact key _ h
theorem z0X.same {w w':World} {g:Nat} {n:CapIx} (h:z0X w g n) (hg:w'.heap[g]? =w.heap[g]?):z0X w' g n:=by
 cases n with
 | sz n=>
   obtain⟨cur,⟨t,fr,h1,h2⟩,h3⟩:=h
   exact⟨cur,⟨t,fr,hg.trans h1,h2⟩,h3⟩
 | tag t=>
   obtain⟨cur,fr,h⟩:=h
   exact⟨cur,fr,hg.trans h⟩
theorem SRb.alloc {E:Env} {β:Nat→Option Nat} {F:Nat→Prop} {σ:St} {a:Act} {w:World} (h:SRb E β F σ a w) {j:Nat} (hj:β j=none) (hjb:E.nb≤j) (hgone:σ.hp j= .gone) (o:Obj) (blk:Blk)
  (hblk:z0p (fun i=>if i=j then some w.heap.size else β i) F (w.alloc o) j blk):
  SRb E (fun i=>if i=j then some w.heap.size else β i) F (σ.seth j blk) a (w.alloc o)∧∀ {x:Av} {v:Value},AvR β F w x v→AvR (fun i=>if i=j then some w.heap.size else β i) F (w.alloc o) x v:=by
 have hβ:∀ i g,β i=some g→(if i=j then some w.heap.size else β i)=some g:=by
  intro i g hi
  rw[if_neg (by intro e; subst e; rw[hj] at hi; cases hi)]; exact hi
 have hs:∀ k,k<w.heap.size→(w.alloc o).heap[k]? =w.heap[k]?:=fun k hk=>RowKit.Below.heap_alloc w o k hk
 have hF:∀ b,F b→(w.alloc o).heap[b]? =w.heap[b]?:=fun b hb=>hs b (h.fr b hb).1
 have hC:∀ g n,z0X w g n→z0X (w.alloc o) g n:=fun g n hc=>hc.same (hs g hc.lt)
 have hA:∀ {x:Av} {v:Value},AvR β F w x v→AvR (fun i=>if i=j then some w.heap.size else β i) F (w.alloc o) x v:=fun hx=>hx.mono hβ (fun b hb=>⟨hb,hF b hb⟩) hC
 refine⟨⟨fun i=>hA (h.tm i),h.sz,h.df,fun i=>?_,fun i k g hi hk e1 e2=>?_,fun i g hi e=>?_,fun i g e=>?_,fun b hb=>?_,?_,fun i hi=>by rw[if_neg (by omega)]; exact h.bb i hi,h.nbl⟩,hA⟩
 ·by_cases hij:i=j
  ·subst hij; simpa[St.seth] using hblk
  ·simp only[St.seth,hij,if_false]
   exact(h.hp i).mono hβ (by simp[hij]) hF hC (fun g hg=>hs g (h.lt i g hg))
 ·by_cases hij:i=j
  ·by_cases hkj:k=j
   ·rw[hij,hkj]
   ·simp only[hij,if_true,Option.some.injEq] at e1
    simp only[hkj,if_false] at e2
    have:=h.lt k g e2
    omega
  ·by_cases hkj:k=j
   ·simp only[hij,if_false] at e1
    simp only[hkj,if_true,Option.some.injEq] at e2
    have:=h.lt i g e1
    omega
   ·simp only[hij,if_false] at e1
    simp only[hkj,if_false] at e2
    simp only[St.seth,hij,hkj,if_false] at hi hk
    exact h.inj i k g hi hk e1 e2
 ·by_cases hij:i=j
  ·simp only[hij,if_true,Option.some.injEq] at e
   subst e
   refine⟨by simp,.inl h.keep.size,fun hf=>?_⟩
   have:=(h.fr _ hf).1
   omega
  ·simp only[hij,if_false] at e
   simp only[St.seth,hij,if_false] at hi
   obtain⟨a1,a2,a3⟩:=h.own i g hi e
   exact⟨by simp; omega,a2,a3⟩
 ·by_cases hij:i=j
  ·simp only[hij,if_true,Option.some.injEq] at e
   subst e; simp
  ·simp only[hij,if_false] at e
   have:=h.lt i g e
   simp; omega
 ·obtain⟨a1,a2⟩:=h.fr b hb
  exact⟨by simp; omega,a2⟩
 ·exact⟨h.keep.os,h.keep.tape,h.keep.output,by have:=h.keep.size; simp; omega,fun k hk hm=>(hs k (Nat.lt_of_lt_of_le hk h.keep.size)).trans (h.keep.block k hk hm),fun g n hc=>hC g n (h.keep.cap g n hc)⟩
theorem SRb.put {E:Env} {β:Nat→Option Nat} {F:Nat→Prop} {σ:St} {a:Act} {w:World} (h:SRb E β F σ a w) {d:Option Nat} {x:Av} {v:Value} (hx:AvR β F w x v) (hd:∀ i,d=some i→i<E.n):
  SRb E β F (σ.put d x) (a.put d v) w:=by
 cases d with
 | none=>exact h
 | some d=>
   refine⟨fun i=>?_,by simpa[Act.put] using h.sz,h.df,h.hp,h.inj,h.own,h.lt,h.fr,h.keep,h.bb,h.nbl⟩
   have hlt:d<a.tmps.size:=by rw[h.sz]; exact hd d rfl
   by_cases hi:i=d
   ·subst hi
    simpa[St.put,St.set,Act.put,hlt] using hx
   ·have:=h.tm i
    have hne:¬ d=i:=fun e=>hi e.symm
    simpa[St.put,St.set,hi,Act.put,Array.getElem?_setIfInBounds,hne] using this
theorem SRb.upd {E:Env} {β:Nat→Option Nat} {F:Nat→Prop} {σ:St} {a:Act} {w w':World} (h:SRb E β F σ a w) {j g:Nat} {cur cur':Array Value} {blk:Blk} (hj:σ.hp j≠ .gone) (hg:β j=some g) (hrow:Row w g cur)
  (hos:w'.os=w.os) (htp:w'.tape=w.tape) (hou:w'.output=w.output) (hsz:w'.heap.size=w.heap.size) (hk:∀ k,k≠g→w'.heap[k]? =w.heap[k]?) (hrow':Row w' g cur') (htg:∀ t,z0X w g (.tag t)→z0X w' g (.tag t)) (hs:cur'.size=cur.size)
  (hblk:z0p β F w' j blk):SRb E β F (σ.seth j blk) a w'∧∀ {x:Av} {v:Value},AvR β F w x v→AvR β F w' x v:=by
 obtain⟨o1,o2,o3⟩:=h.own j g hj hg
 have hF:∀ b,F b→w'.heap[b]? =w.heap[b]?:=fun b hb=>hk b (fun e=>o3 (e▸hb))
 have hC:∀ g n,z0X w g n→z0X w' g n:=by
  intro g' n hc
  by_cases e:g'=g
  ·subst e
   cases n with
   | tag t=>exact htg t hc
   | sz n=>
     obtain⟨c2,⟨t,fr,h1,h2⟩,h3⟩:=hc
     obtain⟨t',fr',h1',_⟩:=hrow
     rw[h1] at h1'
     simp only[Option.some.injEq,Obj.cells.injEq] at h1'
     obtain⟨rfl,_,_⟩:=h1'
     exact⟨cur',hrow',by omega⟩
  ·exact hc.same (hk g' e)
 have hA:∀ {x:Av} {v:Value},AvR β F w x v→AvR β F w' x v:=fun hx=>hx.mono (fun _ _ h=>h) (fun b hb=>⟨hb,hF b hb⟩) hC
 have hne:∀ i,(σ.seth j blk).hp i≠ .gone→σ.hp i≠ .gone:=by
  intro i hi
  by_cases e:i=j
  ·rw[e]; exact hj
  ·simpa[St.seth,e] using hi
 refine⟨⟨fun i=>hA (h.tm i),h.sz,h.df,fun i=>?_,fun i k g hi hk' e1 e2=>h.inj i k g (hne i hi) (hne k hk') e1 e2,fun i g hi e=>?_,fun i g e=>by rw[hsz]; exact h.lt i g e,fun b hb=>by rw[hsz]; exact h.fr b hb,?_,h.bb,h.nbl⟩,hA⟩
 ·by_cases hij:i=j
  ·subst hij; simpa[St.seth] using hblk
  ·simp only[St.seth,hij,if_false]
   by_cases hgone:σ.hp i= .gone
   ·rw[hgone]; trivial
   ·exact(h.hp i).mono (fun _ _ h=>h) rfl hF hC (fun g' hg'=>hk g' (fun e=>hij (h.inj i j g hgone hj (e▸hg') hg)))
 ·rw[hsz]; exact h.own i g (hne i hi) e
 ·refine⟨hos.trans h.keep.os,htp.trans h.keep.tape,hou.trans h.keep.output,by rw[hsz]; exact h.keep.size,fun k hk1 hm=>?_,fun g n hc=>hC g n (h.keep.cap g n hc)⟩
  refine(hk k fun e=>?_).trans (h.keep.block k hk1 hm)
  subst e
  rcases o2 with o2 | o2
  ·omega
  ·exact hm o2
end Go.Sx
namespace Go.Sx
open Go
set_option linter.unusedVariables false
def RC (F:Nat→Prop) (w:World):Leaf→List Value→Prop
 | .ints k l,vs=>vs=l.map (Value.int k)
 | .recs sz l,vs=>vs.length=l.length*sz∧(∀ r,r ∈ l→r.length=sz)∧∀ i r k x,l[i]? =some r→r[k]? =some x→∃ v,vs[i*sz+k]? =some v∧LfR F w x v
 | _,_=>False
def z0f:Leaf→Nat
 | .ints _ l=>l.length
 | .recs _ l=>l.length
 | _=>0
def szD:Leaf→Nat
 | .ints _ _=>1
 | .recs sz _=>sz
 | _=>0
def z0Q (n:Nat):Leaf→Leaf
 | .ints k l=> .ints k (l.take n)
 | .recs sz l=> .recs sz (l.take n)
 | x=>x
def z3V (n:Nat):Leaf→Leaf
 | .ints k l=> .ints k (l.drop n)
 | .recs sz l=> .recs sz (l.drop n)
 | x=>x
def z40:Leaf→Leaf→Option Leaf
 | .ints k l,.ints k' l'=>match decide (k=k') with | true=>some (.ints k (l++l')) | false=>none
 | .recs sz l,.recs sz' l'=>match decide (sz=sz') with | true=>some (.recs sz (l++l')) | false=>none
 | _,_=>none
theorem RC.length {F:Nat→Prop} {w:World} {d:Leaf} {vs:List Value} (h:RC F w d vs):vs.length=z0f d*szD d:=by
 cases d with
 | ints k l=>simp only[RC] at h; subst h; simp[z0f,szD]
 | recs sz l=>exact h.1
 | v=>exact h.elim
 | obj=>exact h.elim
theorem zc9 {i k n sz:Nat} (hi:i<n) (hk:k<sz):i*sz+k<n*sz:=by
 have:(i+1)*sz≤n*sz:=Nat.mul_le_mul_right sz hi
 rw[Nat.add_mul,Nat.one_mul] at this
 omega
theorem RC.one {F:Nat→Prop} {w:World} {d:Leaf} {vs:List Value} (h:RC F w d vs):∀ u,u ∈ vs→u.oneCell'=true:=by
 intro u hu
 cases d with
 | ints k l=>
   simp only[RC] at h; subst h
   obtain⟨_,_,rfl⟩:=List.mem_map.1 hu
   rfl
 | recs sz l=>
   obtain⟨h1,h2,h3⟩:=h
   obtain⟨p,hp,rfl⟩:=List.mem_iff_getElem.1 hu
   have hsz:0<sz:=by
    rcases Nat.eq_zero_or_pos sz with h | h
    ·subst h; simp at h1; subst h1; simp at hp
    ·exact h
   have hi:p/sz<l.length:=by rw[Nat.div_lt_iff_lt_mul hsz]; omega
   have hk:p%sz<sz:=Nat.mod_lt _ hsz
   have hr:=h2 l[p/sz] (List.getElem_mem hi)
   obtain⟨v,hv,hl⟩:=h3 (p/sz) l[p/sz] (p%sz) l[p/sz][p%sz] (by simp[hi]) (by simp[hr,hk])
   rw[Nat.mul_comm,Nat.div_add_mod] at hv
   have:v=vs[p]:=by
    rw[List.getElem?_eq_getElem hp] at hv
    exact(Option.some.inj hv).symm
   rw[←this]
   exact hl.one
 | v=>exact h.elim
 | obj=>exact h.elim
theorem RC.mono {F F':Nat→Prop} {w w':World} (hF:∀ b,F b→F' b∧w'.heap[b]? =w.heap[b]?) {d:Leaf} {vs:List Value} (h:RC F w d vs):RC F' w' d vs:=by
 cases d with
 | ints k l=>exact h
 | recs sz l=>exact⟨h.1,h.2.1,fun i r k x hi hk=>let ⟨v,hv,hl⟩:=h.2.2 i r k x hi hk; ⟨v,hv,hl.mono hF⟩⟩
 | v=>exact h.elim
 | obj=>exact h.elim
theorem RC.app {F:Nat→Prop} {w:World} {d d' e:Leaf} {vs us:List Value} (h:RC F w d vs) (h':RC F w d' us) (ha:z40 d d'=some e):RC F w e (vs++us)∧z0f e=z0f d+z0f d'∧szD e=szD d∧szD d'=szD d:=by
 cases d<;>cases d'<;>simp only[z40] at ha<;>(try cases ha)
 ·rename_i k l k' l'
  split at ha
  ·rename_i hk
   simp only[decide_eq_true_eq] at hk
   subst hk
   simp only[Option.some.injEq] at ha
   subst ha
   simp only[RC] at h h'
   subst h; subst h'
   exact⟨by simp[RC],by simp[z0f],rfl,rfl⟩
  ·cases ha
 ·rename_i sz l sz' l'
  split at ha
  ·rename_i hk
   simp only[decide_eq_true_eq] at hk
   subst hk
   simp only[Option.some.injEq] at ha
   subst ha
   obtain⟨a1,a2,a3⟩:=h
   obtain⟨b1,b2,b3⟩:=h'
   refine⟨⟨by simp[a1,b1,Nat.add_mul],fun r hr=>?_,fun i r k x hi hk=>?_⟩,by simp[z0f],rfl,rfl⟩
   ·rcases List.mem_append.1 hr with h | h
    ·exact a2 r h
    ·exact b2 r h
   ·rcases Nat.lt_or_ge i l.length with hlt | hge
    ·rw[List.getElem?_append_left hlt] at hi
     obtain⟨v,hv,hl⟩:=a3 i r k x hi hk
     have hlt':=(List.getElem?_eq_some_iff.1 hv).1
     exact⟨v,by rw[List.getElem?_append_left hlt']; exact hv,hl⟩
    ·rw[List.getElem?_append_right hge] at hi
     obtain⟨v,hv,hl⟩:=b3 _ r k x hi hk
     refine⟨v,?_,hl⟩
     have e:i*sz=(i -l.length)*sz+l.length*sz:=by rw[←Nat.add_mul]; congr 1; omega
     rw[List.getElem?_append_right (by rw[a1]; omega),a1]
     rw[show i*sz+k -l.length*sz=(i -l.length)*sz+k by omega]
     exact hv
  ·cases ha
theorem RC.take {F:Nat→Prop} {w:World} {d:Leaf} {vs:List Value} (h:RC F w d vs) (n:Nat):RC F w (z0Q n d) (vs.take (n*szD d)):=by
 cases d with
 | ints k l=>simp only[RC,z0Q,szD] at h ⊢; subst h; simp[List.map_take]
 | recs sz l=>
   obtain⟨h1,h2,h3⟩:=h
   refine⟨?_,fun r hr=>h2 r (List.mem_of_mem_take hr),fun i r k x hi hk=>?_⟩
   ·simp only[szD,List.length_take,h1]
    rcases Nat.le_total n l.length with h | h
    ·rw[Nat.min_eq_left h,Nat.min_eq_left (Nat.mul_le_mul_right _ h)]
    ·rw[Nat.min_eq_right h,Nat.min_eq_right (Nat.mul_le_mul_right _ h)]
   ·rw[List.getElem?_take] at hi
    split at hi
    ·rename_i hlt
     obtain⟨v,hv,hl⟩:=h3 i r k x hi hk
     have hr:=h2 r (List.mem_of_getElem? hi)
     have hk':k<sz:=by rw[←hr]; exact(List.getElem?_eq_some_iff.1 hk).1
     refine⟨v,?_,hl⟩
     rw[List.getElem?_take,if_pos (show i*sz+k<n*szD (.recs sz l) from zc9 hlt hk')]
     exact hv
    ·cases hi
 | v=>exact h.elim
 | obj=>exact h.elim
theorem RC.drop {F:Nat→Prop} {w:World} {d:Leaf} {vs:List Value} (h:RC F w d vs) (n:Nat):RC F w (z3V n d) (vs.drop (n*szD d)):=by
 cases d with
 | ints k l=>simp only[RC,z3V,szD] at h ⊢; subst h; simp[List.map_drop]
 | recs sz l=>
   obtain⟨h1,h2,h3⟩:=h
   refine⟨?_,fun r hr=>h2 r (List.mem_of_mem_drop hr),fun i r k x hi hk=>?_⟩
   ·simp only[szD,List.length_drop,h1,Nat.sub_mul]
   ·rw[List.getElem?_drop] at hi
    obtain⟨v,hv,hl⟩:=h3 _ r k x hi hk
    refine⟨v,?_,hl⟩
    rw[List.getElem?_drop,←hv]
    congr 1
    rw[Nat.add_mul]
    simp only[szD]; omega
 | v=>exact h.elim
 | obj=>exact h.elim
theorem z4S {β:Nat→Option Nat} {F:Nat→Prop} {w:World} {j g:Nat} {cur:Array Value} {d:Leaf} {vs:List Value} (hg:β j=some g) (hrow:Row w g cur) (h:RC F w d vs) (hp:∀(i:Nat) (v:Value),vs[i]? =some v→cur[i]? =some v):z0p β F w j (.row d):=by
 cases d with
 | ints k l=>
   simp only[RC] at h; subst h
   exact .inr ⟨g,cur,hg,hrow,fun i x hx=>hp i _ (by simp[hx])⟩
 | recs sz l=>
   obtain⟨h1,h2,h3⟩:=h
   exact⟨h2,.inr ⟨g,cur,hg,hrow,fun i r k x hi hk=>let ⟨v,hv,hl⟩:=h3 i r k x hi hk; ⟨v,hp _ _ hv,hl⟩⟩⟩
 | v=>exact h.elim
 | obj=>exact h.elim
theorem z5w {β:Nat→Option Nat} {F:Nat→Prop} {w:World} {j g:Nat} {cur:Array Value} {d:Leaf} (hg:β j=some g) (hrow:Row w g cur) (h:z0p β F w j (.row d)):∃ vs,RC F w d vs∧∀(i:Nat) (v:Value),vs[i]? =some v→cur[i]? =some v:=by
 have hrr:∀ cur',Row w g cur'→cur'=cur:=by
  rintro cur' ⟨t,fr,h1,_⟩
  obtain⟨t',fr',h1',_⟩:=hrow
  rw[h1] at h1'
  simp only[Option.some.injEq,Obj.cells.injEq] at h1'
  exact h1'.1
 cases d with
 | ints k l=>
   refine⟨l.map (Value.int k),rfl,fun i v hv=>?_⟩
   rcases h with ⟨rfl,_⟩ |⟨g',cur',hg',hr',hc⟩
   ·simp at hv
   ·rw[hg] at hg'
    obtain rfl:=Option.some.inj hg'
    obtain rfl:=hrr cur' hr'
    rw[List.getElem?_map,Option.map_eq_some_iff] at hv
    obtain⟨x,hx,rfl⟩:=hv
    exact hc i x hx
 | recs sz l=>
   obtain⟨h0,h⟩:=h
   rcases h with ⟨rfl,_⟩ |⟨g',cur',hg',hr',hc⟩
   ·exact⟨[],⟨by simp,fun r hr=>by simp at hr,fun i r k x hi=>by simp at hi⟩,fun i v hv=>by simp at hv⟩
   ·rw[hg] at hg'
    obtain rfl:=Option.some.inj hg'
    obtain rfl:=hrr cur' hr'
    refine⟨(cur'.toList.take (l.length*sz)),⟨?_,h0,fun i r k x hi hk=>?_⟩,fun i v hv=>?_⟩
    ·rw[List.length_take,Nat.min_eq_left]
     rcases Nat.eq_zero_or_pos (l.length*sz) with h | h
     ·omega
     ·have hl:0<l.length:=Nat.pos_of_mul_pos_right h
      have hs:0<sz:=Nat.pos_of_mul_pos_left h
      have hr:=h0 l[l.length -1] (List.getElem_mem (by omega))
      obtain⟨v,hv,_⟩:=hc (l.length -1) l[l.length -1] (sz -1) (l[l.length -1][sz -1]'(by omega)) (by simp[show l.length -1<l.length by omega]) (by simp[show sz -1<l[l.length -1].length by omega])
      have:=(Array.getElem?_eq_some_iff.1 hv).1
      have e:l.length*sz=(l.length -1)*sz+sz:=by rw[←Nat.succ_mul]; congr 1; omega
      simp; omega
    ·obtain⟨v,hv,hl⟩:=hc i r k x hi hk
     have hi':=(List.getElem?_eq_some_iff.1 hi).1
     have hr:=h0 r (List.mem_of_getElem? hi)
     have hk':k<sz:=by rw[←hr]; exact(List.getElem?_eq_some_iff.1 hk).1
     refine⟨v,?_,hl⟩
     rw[List.getElem?_take,if_pos (zc9 hi' hk')]
     simpa using hv
    ·rw[List.getElem?_take] at hv
     split at hv
     ·simpa using hv
     ·cases hv
 | v=>exact h.elim
 | obj=>exact h.elim
theorem LfR.cells {F:Nat→Prop} {w:World} {d:Leaf} {a:Option Addr} {n c:Nat} (h:LfR F w d (.slice a n c)) (hd:szD d≠0):n=z0f d∧n≤c∧c≤maxLen∧∃ vs,RC F w d vs∧(vs≠ []→∃ b o,a=some ⟨b,o,none⟩∧F b∧∀(i:Nat) (v:Value),vs[i]? =some v→w.cell? ⟨b,o+i,none⟩=some v):=by
 cases h with
 | v x h=>simp[szD] at hd
 | ints k l a n c hn hc hm hh=>
   refine⟨hn,hc,hm,l.map (Value.int k),rfl,fun hne=>?_⟩
   obtain⟨b,o,h1,h2,h3⟩:=hh (by simpa using hne)
   refine⟨b,o,h1,h2,fun i v hv=>?_⟩
   rw[List.getElem?_map,Option.map_eq_some_iff] at hv
   obtain⟨x,hx,rfl⟩:=hv
   exact h3 i x hx
 | recs sz l a n c vs hn hc hm hs hh hv=>
   have hsz:0<sz:=Nat.pos_of_ne_zero hd
   refine⟨hn,hc,hm,(List.range (l.length*sz)).map (fun p=>vs (p/sz) (p%sz)),⟨by simp,hs,fun i r k x hi hk=>?_⟩,fun hne=>?_⟩
   ·have hi':=(List.getElem?_eq_some_iff.1 hi).1
    have hr:=hs r (List.mem_of_getElem? hi)
    have hk':k<sz:=by rw[←hr]; exact(List.getElem?_eq_some_iff.1 hk).1
    refine⟨vs i k,?_,hv i r k x hi hk⟩
    rw[List.getElem?_map,List.getElem?_range (zc9 hi' hk')]
    simp only[Option.map_some,Option.some.injEq]
    rw[Nat.mul_comm,Nat.mul_add_div hsz,Nat.div_eq_of_lt hk',Nat.mul_add_mod,Nat.mod_eq_of_lt hk',Nat.add_zero]
   ·obtain⟨b,o,h1,h2,h3⟩:=hh (by intro h; subst h; simp at hne)
    refine⟨b,o,h1,h2,fun p v hp=>?_⟩
    rw[List.getElem?_map,Option.map_eq_some_iff] at hp
    obtain⟨q,hq,rfl⟩:=hp
    obtain⟨hlt,rfl⟩:p<l.length*sz∧p=q:=by
     have:=List.getElem?_eq_some_iff.1 hq
     obtain⟨h,h'⟩:=this
     simp at h h'
     exact⟨h,h'⟩
    have hi':p/sz<l.length:=by rw[Nat.div_lt_iff_lt_mul hsz]; omega
    have hk':p%sz<sz:=Nat.mod_lt _ hsz
    have hr:=hs l[p/sz] (List.getElem_mem hi')
    have:=h3 (p/sz) l[p/sz] (p%sz) (l[p/sz][p%sz]'(by omega)) (by simp[hi']) (by simp[hr,hk'])
    rw[←this]
    congr 2
    have:=Nat.div_add_mod p sz
    rw[Nat.mul_comm] at this
    omega
end Go.Sx
namespace Go.Sx
open Go
set_option linter.unusedVariables false
def WL (P:Program) (E:Env) (ops:Array Oper) (Q:Exit→Act→World→Prop) (rest:List Oper) (σ:St):Prop:=∀ a w,SR E σ a w→wpList P ops Q rest a w
def W (P:Program) (E:Env) (c:Code) (Q:Exit→Act→World→Prop) (σ:St):Prop:=∀ a w,SR E σ a w→c.wp P Q a w
def N (E:Env) (Q:Exit→Act→World→Prop) (e:Exit) (σ:St):Prop:=∀ a w,SR E σ a w→Q e a w
def z0e (n:Nat):Option Nat→Bool
 | some d=>decide (d<n)
 | none=>true
theorem z0x {n:Nat} {d:Option Nat} (h:z0e n d=true):∀ i,d=some i→i<n:=by
 intro i hi; subst hi; simpa[z0e] using h
section
variable {P:Program} {E:Env} {ops:Array Oper} {Q:Exit→Act→World→Prop} {rest:List Oper} {o:Oper} {σ:St}
theorem zgh (h:N E Q .normal σ):WL P E ops Q [] σ:=fun a w hS=>h a w hS
theorem z4l (hg:o.guard=none) (σ':St)
  (h:∀ a w,SR E σ a w→∃ v w',(execOp a.eval o).run P w= .ok (.value v) w'∧SR E σ' (a.put o.dst v) w') (hk:WL P E ops Q rest σ'):WL P E ops Q (o::rest) σ:=by
 intro a w hS
 refine wpList_plain hg fun K hK=>?_
 obtain⟨v,w',hr,hS'⟩:=h a w hS
 unfold Oper.wp
 rw[hr]
 exact hK _ _ (hk _ _ hS')
theorem zaj (hg:o.guard=none) (σ':St)
  (h:∀ a w,SR E σ a w→∃ w',(execOp a.eval o).run P w= .ok .skip w'∧SR E σ' (a.put o.dst undef) w') (hk:WL P E ops Q rest σ'):WL P E ops Q (o::rest) σ:=by
 intro a w hS
 refine wpList_plain hg fun K hK=>?_
 obtain⟨w',hr,hS'⟩:=h a w hS
 unfold Oper.wp
 rw[hr]
 exact hK _ _ (hk _ _ hS')
theorem zoU (nw:Bool) {ps:List Prop} {x:Av} (h:z1M nw P σ o=some (ps,x)) (hg:o.guard=none) (hd:z0e E.n o.dst=true) (hp:z03 ps) (hk:WL P E ops Q rest (σ.put o.dst x)):
  WL P E ops Q (o::rest) σ:=by
 refine z4l hg _ (fun a w hS=>?_) hk
 obtain⟨β,F,hS⟩:=hS
 obtain⟨z,h1,h2⟩:=z4s h hp hS
 exact⟨z,w,h1,β,F,hS.put h2 (z0x hd)⟩
def z7G (ops:Array Oper) (σ:St) (i:Nat) (b:Bool):Option Bool:=
 match (ops[i]?).bind (·.dst) with
 | some d=>
   match σ.tm d with
   | .c (.lf (.v (.bool y)))=>some (match b with | true=>y | false=>!y)
   | .cnd g (.c (.lf (.v (.bool y))))=>some (g&&match b with | true=>y | false=>!y)
   | _=>none
 | none=>none
theorem z4a {i:Nat} {b G:Bool} {a:Act} {w:World} {β:Nat→Option Nat} {F:Nat→Prop} (h:z7G ops σ i b=some G) (hg:o.guard=some (i,b)) (hS:SRb E β F σ a w):
  Region.wanted o (yielded ops a.tmps)=G:=by
 unfold z7G at h
 split at h
 ·rename_i d hd
  have key:∀ v,a.tmps.getD d undef=v→yielded ops a.tmps i=match v with | .bool y=>some y | _=>none:=by
   intro v hv
   simp only[yielded,hd,Option.bind_some]
   by_cases hlt:d<a.tmps.size
   ·have:a.tmps[d]? =some v:=by rw[←hv]; simp[hlt]
    rw[this]
    cases v<;>rfl
   ·have hv':v=undef:=by rw[←hv]; simp[hlt]
    have:a.tmps[d]? =none:=Array.getElem?_eq_none (Nat.le_of_not_lt hlt)
    rw[this,hv']
    rfl
  have ht:=hS.tm d
  split at h
  ·rename_i y hy
   simp only[Option.some.injEq] at h
   subst h
   rw[hy] at ht
   have:=key _ ht.val
   simp only[Region.wanted,hg,this]
   cases b<;>cases y<;>rfl
  ·rename_i g y hy
   simp only[Option.some.injEq] at h
   subst h
   rw[hy] at ht
   generalize hv:a.tmps.getD d undef=v at ht
   have hk:=key v hv
   cases ht with | cnd _ _ _ h1 h0=>
   cases g with
   | true=>
     have:=(h1 rfl).val
     subst this
     simp only[Region.wanted,hg,hk]
     cases b<;>cases y<;>rfl
   | false=>
     have:=h0 rfl
     subst this
     simp only[Region.wanted,hg,hk,undef]
     rfl
  ·cases h
 ·cases h
theorem zku (nw:Bool) {i:Nat} {b G:Bool} {ps:List Prop} {x:Av} (hg:o.guard=some (i,b)) (hG:z7G ops σ i b=some G) (h:z1M nw P σ o=some (ps,x)) (hd:z0e E.n o.dst=true)
  (hp:G=true→z03 ps) (hk:WL P E ops Q rest (σ.put o.dst (.cnd G x))):WL P E ops Q (o::rest) σ:=by
 intro a w hS
 obtain⟨β,F,hS⟩:=hS
 have hw:=z4a (o:=o) hG hg hS
 unfold wpList
 rw[hw]
 cases G with
 | true=>
   rw[if_pos rfl]
   obtain⟨z,h1,h2⟩:=z4s h (hp rfl) hS
   left
   unfold Oper.wp
   rw[h1]
   exact hk _ _ ⟨β,F,hS.put (.cnd _ _ _ (fun _=>h2) (fun h=>by cases h)) (z0x hd)⟩
 | false=>
   rw[if_neg (by simp)]
   exact hk _ _ ⟨β,F,hS.put (.cnd _ _ _ (fun h=>by cases h) (fun _=>rfl)) (z0x hd)⟩
theorem zim {id:Nat} {l:List Oper} (h:WL P E l.toArray Q l σ):W P E (.region id l.toArray false) Q σ:=fun a w hS=>wp_region_lit (h a w hS)
theorem zrs {x y:Code} (h:W P E x (Exit.then (fun a w=>y.wp P Q a w) Q) σ):W P E (.seq x y) Q σ:=fun a w hS=>wp_seq (h a w hS)
theorem zoV (h:N E Q .normal σ):W P E .skip Q σ:=fun a w hS=>wp_skip (h a w hS)
theorem zrt (h:N E Q .ret σ):W P E .ret Q σ:=fun a w hS=>wp_ret (h a w hS)
theorem zoW {id:Nat} (h:N E Q (.exit id) σ):W P E (.exit id) Q σ:=fun a w hS=>wp_exit (h a w hS)
theorem zkv {id:Nat} {c:Code} (h:W P E c (Exit.inBlock id Q) σ):W P E (.block id c) Q σ:=fun a w hS=>wp_block (h a w hS)
theorem z06 {c:Operand} {x y:Code} {ps:List Prop} {b:Bool} (hc:ox σ c=(ps,.c (.lf (.v (.bool b))))) (hp:z03 ps) (ht:b=true→W P E x Q σ) (hf:b=false→W P E y Q σ):W P E (.cond c x y) Q σ:=by
 intro a w hS
 obtain⟨β,F,hS'⟩:=hS
 have h1:=oxR hS' c
 rw[hc] at h1
 have h2:=(h1 hp).val
 exact wp_cond_split h2 (fun h=>ht h a w ⟨β,F,hS'⟩) (fun h=>hf h a w ⟨β,F,hS'⟩)
theorem zoX {y:Code} {Q':Exit→Act→World→Prop} (h:W P E y Q σ):N E (Exit.then (fun a w=>y.wp P Q a w) Q') .normal σ:=h
theorem zdG {K:Act→World→Prop} {id:Nat} (h:N E Q (.exit id) σ):N E (Exit.then K Q) (.exit id) σ:=h
theorem zfb {K:Act→World→Prop} (h:N E Q .ret σ):N E (Exit.then K Q) .ret σ:=h
theorem zkw {id:Nat} (h:N E Q .normal σ):N E (Exit.inBlock id Q) .normal σ:=h
theorem zdH {id:Nat} (h:N E Q .ret σ):N E (Exit.inBlock id Q) .ret σ:=h
theorem zca {id:Nat} (h:N E Q .normal σ):N E (Exit.inBlock id Q) (.exit id) σ:=fun a w hS=>by simpa[Exit.inBlock] using h a w hS
theorem z5K {id id':Nat} (hne:(id'==id)=false) (h:N E Q (.exit id') σ):N E (Exit.inBlock id Q) (.exit id') σ:=fun a w hS=>by
 have:id'≠id:=by simpa using hne
 simpa[Exit.inBlock,this] using h a w hS
def Av.le (x y:Av):Prop:=x=y∨y= .c .un
def Blk.le (x y:Blk):Prop:=x=y∨y= .gone
def St.le (σ τ:St):Prop:=(∀ i,(σ.tm i).le (τ.tm i))∧∀ j,(σ.hp j).le (τ.hp j)
theorem SR.weaken {τ:St} {a:Act} {w:World} (h:SR E σ a w) (hle:σ.le τ):SR E τ a w:=by
 obtain⟨β,F,h⟩:=h
 have hne:∀ j,τ.hp j≠ .gone→σ.hp j=τ.hp j:=fun j hj=>by
  rcases hle.2 j with h | h
  ·exact h
  ·exact absurd h hj
 refine⟨β,F,fun i=>?_,h.sz,h.df,fun j=>?_,fun i j g hi hj=>h.inj i j g (by rw[hne i hi]; exact hi) (by rw[hne j hj]; exact hj),fun j g hj=>h.own j g (by rw[hne j hj]; exact hj),h.lt,h.fr,h.keep,h.bb,h.nbl⟩
 ·rcases hle.1 i with e | e
  ·rw[←e]; exact h.tm i
  ·rw[e]; exact .any _
 ·rcases hle.2 j with e | e
  ·rw[←e]; exact h.hp j
  ·rw[e]; trivial
theorem z09 {c:Code} {τ:St} (hle:σ.le τ) (h:W P E c Q τ):W P E c Q σ:=fun a w hS=>h a w (hS.weaken hle)
def z5L {α:Type} (d:α):List (Nat×α)→Nat→α
 | [],_=>d
 |(i,x)::l,k=>match Nat.beq k i with | true=>x | false=>z5L d l k
def St.of (l:List (Nat×Av)) (h:List (Nat×Blk)):St:=⟨z5L (.c .un) l,z5L .gone h⟩
theorem zak {α:Type} {d:α} {f:Nat→α}:∀(l:List (Nat×α)),(∀ p,p ∈ l→f p.1=p.2)→∀ i,f i=z5L d l i∨z5L d l i=d
 | [],_,i=> .inr rfl
 |(j,x)::l,h,i=>by
  simp only[z5L]
  split
  ·rename_i e
   have:i=j:=Nat.eq_of_beq_eq_true e
   subst this
   exact .inl (h (i,x) (List.mem_cons_self ..))
  ·exact zak l (fun p hp=>h p (List.mem_cons_of_mem _ hp)) i
def Eqs (σ:St) (l:List (Nat×Av)) (h:List (Nat×Blk)):Prop:=z03 (l.map fun p=>σ.tm p.1=p.2)∧z03 (h.map fun p=>σ.hp p.1=p.2)
theorem z1U {α:Type} {f:α→Prop}:∀ {l:List α},z03 (l.map f)→∀ p,p ∈ l→f p
 | [],_,p,hp=>by cases hp
 | [x],h,p,hp=>by rw[List.mem_singleton.1 hp]; exact h
 | x::y::l,h,p,hp=>by
   cases hp with
   | head=>exact h.1
   | tail _ hp=>exact z1U (l:=y::l) h.2 p hp
theorem St.le_of {l:List (Nat×Av)} {h:List (Nat×Blk)} (he:Eqs σ l h):σ.le (.of l h):=
 ⟨fun i=>zak l (fun p hp=>z1U he.1 p hp) i,fun j=>zak h (fun p hp=>z1U he.2 p hp) j⟩
def zgi {ι:Type} (E:Env) (S:ι→St) (m:ι→Nat) (n:Nat):Act→World→Prop:=fun a w=>∃ i',m i'<n∧SR E (S i') a w
theorem z0k {ι:Type} {c:Code} (S:ι→St) (m:ι→Nat) (round:∀ i,W P E c (Exit.then (zgi E S m (m i)) Q) (S i)):∀ i,W P E (.loop c) Q (S i):=by
 intro i a w hS b k cs
 have key:∀ n i a w,m i=n→SR E (S i) a w→∃ e a' w',Q e a' w'∧Arrives P (lone (b.at a (.code c:: .inLoop c::k)) cs w) b k cs e a' w':=by
  intro n
  induction n using Nat.strongRecOn with
  | _ n ih=>
    intro i a w hn hI
    obtain⟨e,a₁,w₁,hq,harr⟩:=round i a w hI b (.inLoop c::k) cs
    cases e with
    | normal=>
      obtain⟨i',hlt,hI'⟩:=hq
      obtain⟨e₂,a₂,w₂,hq₂,harr₂⟩:=ih (m i') (hn▸hlt) i' a₁ w₁ rfl hI'
      exact⟨e₂,a₂,w₂,hq₂,.of_steps (Steps.trans harr (.one step_inLoop)) harr₂⟩
    | exit id=>exact⟨_,a₁,w₁,hq,.pass (x:= .inLoop c) rfl (fun _ _=> .inl (by simp)) harr⟩
    | goto l=>exact⟨_,a₁,w₁,hq,.pass (x:= .inLoop c) rfl (fun _ _=> .inl (by simp)) harr⟩
    | ret=>exact⟨_,a₁,w₁,hq,.pass (x:= .inLoop c) rfl (fun _ _=> .inl (by simp)) harr⟩
    | panic ch=>exact⟨_,a₁,w₁,hq,.pass (x:= .inLoop c) rfl (fun _ _=> .inl (by simp)) harr⟩
    | outgrown=>exact⟨_,a₁,w₁,hq,.pass (x:= .inLoop c) rfl (fun _ _=> .inl (by simp)) harr⟩
 obtain⟨e,a',w',hq,harr⟩:=key _ i a w rfl hS
 exact⟨e,a',w',hq,.of_steps (.one step_loop) harr⟩
theorem z08 {ι:Type} {S:ι→St} {m:ι→Nat} {n:Nat} (i':ι) (hm:m i'<n) (hle:σ.le (S i')):N E (Exit.then (zgi E S m n) Q) .normal σ:=
 fun a w hS=>⟨i',hm,hS.weaken hle⟩
end
structure Out (w0:World) (M F0:Nat→Prop) (nb nn:Nat) (β β':Nat→Option Nat) (F':Nat→Prop) (w:World):Prop where
 hb:∀ i,i<nb→β' i=β i
 inj:∀ i j g,i<nb+nn→j<nb+nn→β' i=some g→β' j=some g→i=j
 own:∀ j g,j<nb+nn→β' j=some g→g<w.heap.size∧¬ F' g
 new:∀ i g,i<nn→β' (nb+i)=some g→w0.heap.size≤g
 fr:∀ b,F' b→b<w.heap.size∧(F0 b∨w0.heap.size≤b)
 keep:Keep w0 M w
def Ct (P:Program) (f:FuncId) (args:List Av) (bor:List Blk) (res:Av) (bor' news:List Blk):Prop:=
 bor'.length=bor.length∧(∃ fn,P.funcs[f]? =some fn∧(fn.name== "runtime.NumGoroutine")=false∧fn.body.isNone=false)∧
 ∀(w:World) (β:Nat→Option Nat) (F:Nat→Prop) (vs:List Value),vs.length=args.length→(∀(i:Nat) (x:Av) (v:Value),args[i]? =some x→vs[i]? =some v→AvR β F w x v)→
  (∀ i b,bor[i]? =some b→z0p β F w i b∧b≠ .gone)→(∀ i j g,i<bor.length→j<bor.length→β i=some g→β j=some g→i=j)→
  (∀ j g,j<bor.length→β j=some g→g<w.heap.size∧¬ F g)→(∀ j,bor.length≤j→β j=none)→(∀ b,F b→b<w.heap.size)→GdK w (fun g=>∃ i,i<bor.length∧β i=some g)→
  Calls P f vs.toArray w fun e w'=>∃ v β' F',e= .returned v∧AvR β' F' w' res v∧(∀ i b,bor'[i]? =some b→z0p β' F' w' i b)∧(∀ i b,news[i]? =some b→z0p β' F' w' (bor.length+i) b)∧
   Out w (fun g=>∃ i,i<bor.length∧β i=some g) F bor.length news.length β β' F' w'
end Go.Sx
namespace Go.Sx
open Go
set_option linter.unusedVariables false
def Cell.ren1 (ρ:Nat→Nat):Cell→Cell
 | .own i sz off len=> .own (ρ i) sz off len
 | .ptr i off=> .ptr (ρ i) off
 | .pel i sz e k=> .pel (ρ i) sz e k
 | .tptr i t=> .tptr (ρ i) t
 | .map i=> .map (ρ i)
 | .town i off len t=> .town (ρ i) off len t
 | x=>x
def Cell.ren (ρ:Nat→Nat):Cell→Cell
 | .fn f first cap=> .fn f (first.map (Cell.ren1 ρ)) (cap.map (Cell.ren1 ρ))
 | x=>x.ren1 ρ
def Av.ren1 (ρ:Nat→Nat):Av→Av
 | .c x=> .c (x.ren ρ)
 | .agg xs=> .agg (xs.map (Cell.ren ρ))
 | x=>x
def Av.ren (ρ:Nat→Nat):Av→Av
 | .tup xs=> .tup (xs.map (Av.ren1 ρ))
 | x=>x.ren1 ρ
def Blk.ren (ρ:Nat→Nat):Blk→Blk
 | .cells cs=> .cells (cs.map (Cell.ren ρ))
 | .fr vs cs=> .fr vs (cs.map (Cell.ren ρ))
 | b=>b
def Cell.flat (n:Nat):Cell→Bool
 | .fn _ _ _=>false
 | .own i _ _ _=>Nat.blt i n
 | .ptr i _=>Nat.blt i n
 | .pel i _ _ _=>Nat.blt i n
 | .tptr i _=>Nat.blt i n
 | .map i=>Nat.blt i n
 | .town i _ _ _=>Nat.blt i n
 | _=>true
def Cell.ok (n:Nat):Cell→Bool
 | .fn _ first cap=>first.all (Cell.flat n)&&cap.all (Cell.flat n)
 | x=>x.flat n
def Av.ok1 (n:Nat):Av→Bool
 | .c x=>x.ok n
 | .agg xs=>xs.all (Cell.ok n)
 | .ai _ _=>true
 | _=>false
def Av.ok (n:Nat):Av→Bool
 | .tup xs=>xs.all (Av.ok1 n)
 | x=>x.ok1 n
def Blk.ok (n:Nat):Blk→Bool
 | .cells cs=>cs.all (Cell.ok n)
 | .fr _ cs=>cs.all (Cell.ok n)
 | _=>true
theorem z1H {i n:Nat} (h:Nat.blt i n=true):i<n:=by rwa[Nat.blt_eq] at h
section
variable {β β':Nat→Option Nat} {F:Nat→Prop} {w:World} {ρ:Nat→Nat} {n:Nat}
theorem CellR.ren1 (hβ:∀ i,i<n→β (ρ i)=β' i) {x:Cell} {v:Value} (h:CellR β' F w x v) (hx:x.flat n=true):CellR β F w (x.ren1 ρ) v:=by
 cases h with
 | lf h=>exact .lf h
 | un h=>exact .un h
 | own i sz off len a c hc hm h=>exact .own _ _ _ _ _ _ hc hm (by rw[hβ _ (z1H hx)]; exact h)
 | ptr i off g h=>exact .ptr _ _ _ (by rw[hβ _ (z1H hx)]; exact h)
 | pel i sz e k g h=>exact .pel _ _ _ _ _ (by rw[hβ _ (z1H hx)]; exact h)
 | tptr i t g h ht=>exact .tptr _ _ _ (by rw[hβ _ (z1H hx)]; exact h) ht
 | map i g h=>exact .map _ _ (by rw[hβ _ (z1H hx)]; exact h)
 | town i off len t a c hc hm h=>exact .town _ _ _ _ _ _ hc hm (by rw[hβ _ (z1H hx)]; exact h)
 | fn=>cases hx
 | bnd f xs cs h1 h=>exact .bnd f xs cs h1 h
theorem CellR.ren (hβ:∀ i,i<n→β (ρ i)=β' i) {x:Cell} {v:Value} (h:CellR β' F w x v) (hx:x.ok n=true):CellR β F w (x.ren ρ) v:=by
 have h':=h
 cases h with
 | fn f first cap fv cv h1 h2 h3 h4=>
   simp only[Cell.ok,Bool.and_eq_true,List.all_eq_true] at hx
   refine .fn _ _ _ _ _ (by simpa using h1) (by simpa using h2) (fun i x v hx' hv=>?_) (fun i x v hx' hv=>?_)
   ·rw[List.getElem?_map,Option.map_eq_some_iff] at hx'
    obtain⟨y,hy,rfl⟩:=hx'
    exact(h3 i y v hy hv).ren1 hβ (hx.1 y (List.mem_of_getElem? hy))
   ·rw[List.getElem?_map,Option.map_eq_some_iff] at hx'
    obtain⟨y,hy,rfl⟩:=hx'
    exact(h4 i y v hy hv).ren1 hβ (hx.2 y (List.mem_of_getElem? hy))
 | lf=>exact h'.ren1 hβ hx
 | un=>exact h'.ren1 hβ hx
 | own=>exact h'.ren1 hβ hx
 | ptr=>exact h'.ren1 hβ hx
 | pel=>exact h'.ren1 hβ hx
 | tptr=>exact h'.ren1 hβ hx
 | map=>exact h'.ren1 hβ hx
 | town=>exact h'.ren1 hβ hx
 | bnd=>exact h'.ren1 hβ hx
theorem AvR.ren1 (hβ:∀ i,i<n→β (ρ i)=β' i) {x:Av} {v:Value} (h:AvR β' F w x v) (hx:x.ok1 n=true):AvR β F w (x.ren1 ρ) v:=by
 cases h with
 | c h=>exact .c (h.ren hβ hx)
 | any=>exact .any _
 | agg xs cs h1 h=>
   simp only[Av.ok1,List.all_eq_true] at hx
   refine .agg _ _ (by simpa using h1) fun i x v hx' hv=>?_
   rw[List.getElem?_map,Option.map_eq_some_iff] at hx'
   obtain⟨y,hy,rfl⟩:=hx'
   exact(h i y v hy hv).ren hβ (hx y (List.mem_of_getElem? hy))
 | ai k l=>exact .ai k l
 | tup=>cases hx
 | cnd=>cases hx
theorem AvR.ren (hβ:∀ i,i<n→β (ρ i)=β' i) {x:Av} {v:Value} (h:AvR β' F w x v) (hx:x.ok n=true):AvR β F w (x.ren ρ) v:=by
 have h':=h
 cases h with
 | tup xs cs h1 h=>
   simp only[Av.ok,List.all_eq_true] at hx
   refine .tup _ _ (by simpa using h1) fun i x v hx' hv=>?_
   rw[List.getElem?_map,Option.map_eq_some_iff] at hx'
   obtain⟨y,hy,rfl⟩:=hx'
   exact(h i y v hy hv).ren1 hβ (hx y (List.mem_of_getElem? hy))
 | c=>exact h'.ren1 hβ hx
 | any=>exact h'.ren1 hβ hx
 | agg=>exact h'.ren1 hβ hx
 | ai=>exact h'.ren1 hβ hx
 | cnd=>cases hx
theorem z0p.ren (hβ:∀ i,i<n→β (ρ i)=β' i) {i:Nat} {b:Blk} (h:z0p β' F w i b) (hi:i<n) (hx:b.ok n=true):z0p β F w (ρ i) (b.ren ρ):=by
 cases b with
 | gone=>trivial
 | cells cs=>
   obtain⟨g,cur,hg,hr,hsz,hc⟩:=h
   simp only[Blk.ok,List.all_eq_true] at hx
   refine⟨g,cur,(hβ i hi).trans hg,hr,by simpa using hsz,fun k x v hx' hv=>?_⟩
   rw[List.getElem?_map,Option.map_eq_some_iff] at hx'
   obtain⟨y,hy,rfl⟩:=hx'
   exact(hc k y v hy hv).ren hβ (hx y (List.mem_of_getElem? hy))
 | fr vs cs=>
   obtain⟨g,cur,hg,hr,hsz,hc⟩:=h
   simp only[Blk.ok,List.all_eq_true] at hx
   refine⟨g,cur,(hβ i hi).trans hg,hr,by simpa using hsz,fun k x v hx' hv=>?_⟩
   rw[List.getElem?_map,Option.map_eq_some_iff] at hx'
   obtain⟨y,hy,rfl⟩:=hx'
   exact(hc k y v hy hv).ren hβ (hx y (List.mem_of_getElem? hy))
 | map es=>
   obtain⟨g,ms,ck,hg,h⟩:=h
   exact⟨g,ms,ck,(hβ i hi).trans hg,h⟩
 | raw g ob=>
   obtain⟨hg,h⟩:=h
   exact⟨(hβ i hi).trans hg,h⟩
 | mapS g ms ck es=>
   obtain⟨hg,h⟩:=h
   exact⟨(hβ i hi).trans hg,h⟩
 | row d=>
   cases d with
   | ints k l=>simpa[z0p,Blk.ren,hβ i hi] using h
   | recs sz l=>simpa[z0p,Blk.ren,hβ i hi] using h
   | v=>exact h
   | obj=>exact h
theorem CellR.unren1 (hβ:∀ i,i<n→β (ρ i)=β' i) {x:Cell} {v:Value} (h:CellR β F w (x.ren1 ρ) v) (hx:x.flat n=true):CellR β' F w x v:=by
 cases x with
 | lf=>exact(by cases h with | lf h=>exact .lf h)
 | un=>exact(by cases h with | un h=>exact .un h)
 | own i sz off len=>cases h with | own _ _ _ _ a c hc hm h=>exact .own _ _ _ _ _ _ hc hm (by rw[←hβ _ (z1H hx)]; exact h)
 | ptr i off=>cases h with | ptr _ _ g h=>exact .ptr _ _ _ (by rw[←hβ _ (z1H hx)]; exact h)
 | pel i sz e k=>cases h with | pel _ _ _ _ g h=>exact .pel _ _ _ _ _ (by rw[←hβ _ (z1H hx)]; exact h)
 | tptr i t=>cases h with | tptr _ _ g h ht=>exact .tptr _ _ _ (by rw[←hβ _ (z1H hx)]; exact h) ht
 | map i=>cases h with | map _ g h=>exact .map _ _ (by rw[←hβ _ (z1H hx)]; exact h)
 | town i off len t=>cases h with | town _ _ _ _ a c hc hm h=>exact .town _ _ _ _ _ _ hc hm (by rw[←hβ _ (z1H hx)]; exact h)
 | fn=>cases hx
 | bnd f xs=>cases h with | bnd _ _ cs h1 h=>exact .bnd _ _ cs h1 h
theorem CellR.unren (hβ:∀ i,i<n→β (ρ i)=β' i) {x:Cell} {v:Value} (h:CellR β F w (x.ren ρ) v) (hx:x.ok n=true):CellR β' F w x v:=by
 cases x with
 | fn f first cap=>
   simp only[Cell.ok,Bool.and_eq_true,List.all_eq_true] at hx
   cases h with | fn _ _ _ fv cv h1 h2 h3 h4=>
   refine .fn _ _ _ _ _ (by simpa using h1) (by simpa using h2) (fun i x v hx' hv=>?_) (fun i x v hx' hv=>?_)
   ·exact(h3 i _ v (by rw[List.getElem?_map,hx']; rfl) hv).unren1 hβ (hx.1 x (List.mem_of_getElem? hx'))
   ·exact(h4 i _ v (by rw[List.getElem?_map,hx']; rfl) hv).unren1 hβ (hx.2 x (List.mem_of_getElem? hx'))
 | lf=>exact h.unren1 hβ hx
 | un=>exact h.unren1 hβ hx
 | own=>exact h.unren1 hβ hx
 | ptr=>exact h.unren1 hβ hx
 | pel=>exact h.unren1 hβ hx
 | tptr=>exact h.unren1 hβ hx
 | map=>exact h.unren1 hβ hx
 | town=>exact h.unren1 hβ hx
 | bnd=>exact h.unren1 hβ hx
theorem AvR.unren1 (hβ:∀ i,i<n→β (ρ i)=β' i) {x:Av} {v:Value} (h:AvR β F w (x.ren1 ρ) v) (hx:x.ok1 n=true):AvR β' F w x v:=by
 cases x with
 | c x=>
   by_cases hu:x= .un
   ·subst hu; exact .any _
   ·simp only[Av.ren1] at h
    generalize hy:x.ren ρ=y at h
    cases h with
    | c h=>subst hy; exact .c (h.unren hβ hx)
    | any=>exfalso; cases x<;>simp[Cell.ren,Cell.ren1] at hy; exact hu rfl
 | agg xs=>
   simp only[Av.ok1,List.all_eq_true] at hx
   cases h with | agg _ cs h1 h=>
   refine .agg _ _ (by simpa using h1) fun i x v hx' hv=>?_
   exact(h i _ v (by rw[List.getElem?_map,hx']; rfl) hv).unren hβ (hx x (List.mem_of_getElem? hx'))
 | ai k l=>cases h with | ai=>exact .ai k l
 | tup=>cases hx
 | cnd=>cases hx
theorem AvR.unren (hβ:∀ i,i<n→β (ρ i)=β' i) {x:Av} {v:Value} (h:AvR β F w (x.ren ρ) v) (hx:x.ok n=true):AvR β' F w x v:=by
 cases x with
 | tup xs=>
   simp only[Av.ok,List.all_eq_true] at hx
   cases h with | tup _ cs h1 h=>
   refine .tup _ _ (by simpa using h1) fun i x v hx' hv=>?_
   exact(h i _ v (by rw[List.getElem?_map,hx']; rfl) hv).unren1 hβ (hx x (List.mem_of_getElem? hx'))
 | c=>exact h.unren1 hβ hx
 | agg=>exact h.unren1 hβ hx
 | ai=>exact h.unren1 hβ hx
 | cnd=>cases hx
theorem z0p.unren (hβ:∀ i,i<n→β (ρ i)=β' i) {i:Nat} {b:Blk} (h:z0p β F w (ρ i) (b.ren ρ)) (hi:i<n) (hx:b.ok n=true):z0p β' F w i b:=by
 cases b with
 | gone=>trivial
 | cells cs=>
   obtain⟨g,cur,hg,hr,hsz,hc⟩:=h
   simp only[Blk.ok,List.all_eq_true] at hx
   refine⟨g,cur,(hβ i hi).symm.trans hg,hr,by simpa using hsz,fun k x v hx' hv=>?_⟩
   exact(hc k _ v (by rw[List.getElem?_map,hx']; rfl) hv).unren hβ (hx x (List.mem_of_getElem? hx'))
 | fr vs cs=>
   obtain⟨g,cur,hg,hr,hsz,hc⟩:=h
   simp only[Blk.ok,List.all_eq_true] at hx
   refine⟨g,cur,(hβ i hi).symm.trans hg,hr,by simpa using hsz,fun k x v hx' hv=>?_⟩
   exact(hc k _ v (by rw[List.getElem?_map,hx']; rfl) hv).unren hβ (hx x (List.mem_of_getElem? hx'))
 | map es=>
   obtain⟨g,ms,ck,hg,h⟩:=h
   exact⟨g,ms,ck,(hβ i hi).symm.trans hg,h⟩
 | raw g ob=>
   obtain⟨hg,h⟩:=h
   exact⟨(hβ i hi).symm.trans hg,h⟩
 | mapS g ms ck es=>
   obtain⟨hg,h⟩:=h
   exact⟨(hβ i hi).symm.trans hg,h⟩
 | row d=>
   cases d with
   | ints k l=>simpa[z0p,Blk.ren,←hβ i hi] using h
   | recs sz l=>simpa[z0p,Blk.ren,←hβ i hi] using h
   | v=>exact h
   | obj=>exact h
end
def z0b {α:Type}:Nat→List α→List (Nat×α)
 | _,[]=> []
 | n,x::l=>(n,x)::z0b (n+1) l
theorem z2X {α:Type} (d:α):∀(l:List α) (n k:Nat),z5L d (z0b n l) k=if n≤k then(l[k -n]?).getD d else d
 | [],n,k=>by simp[z0b,z5L]
 | x::l,n,k=>by
   simp only[z0b,z5L]
   split
   ·rename_i e
    have:k=n:=Nat.eq_of_beq_eq_true e
    subst this
    simp
   ·rename_i e
    have hne:k≠n:=by intro h; subst h; simp at e
    rw[z2X d l (n+1) k]
    by_cases h:n+1≤k
    ·have h':n≤k:=by omega
     rw[if_pos h,if_pos h']
     obtain⟨m,rfl⟩:∃ m,k=n+1+m:=⟨k -(n+1),by omega⟩
     rw[show n+1+m -(n+1)=m by omega,show n+1+m -n=m+1 by omega]
     simp
    ·rw[if_neg h,if_neg (by omega)]
def rho (nb:Nat) (ks:List Nat) (i:Nat):Nat:=match Nat.blt i nb with | true=>i | false=>ks.getD (i -nb) 0
structure Fin (σ:St) (r:Av) (nb:Nat) (ks:List Nat) (res:Av) (bor' news:List Blk):Prop where
 fres:r=res.ren (rho nb ks)
 fbor:z03 ((z0b 0 bor').map fun p=>σ.hp p.1=p.2.ren (rho nb ks))
 fnews:z03 ((z0b nb news).map fun p=>σ.hp (rho nb ks p.1)=p.2.ren (rho nb ks))
 fok:(res.ok (nb+news.length)&&bor'.all (Blk.ok (nb+news.length))&&news.all (Blk.ok (nb+news.length))&&news.all (fun b=>match b with | .gone=>false | _=>true)&&Nat.beq ks.length news.length&&ks.all (fun k=>Nat.ble 64 k)&&decide ks.Nodup)=true
theorem z2r {α:Type}:∀(l:List α) (n i:Nat) (x:α),l[i]? =some x→(n+i,x) ∈ z0b n l
 | y::l,n,0,x,h=>by simp at h; subst h; simp[z0b]
 | y::l,n,i+1,x,h=>by
   have:=z2r l (n+1) i x (by simpa using h)
   simp only[z0b]
   rw[show n+(i+1)=n+1+i by omega]
   exact List.mem_cons_of_mem _ this
theorem z00 {P:Program} {f:FuncId} {fn:Func} {c:Code} {args:List Av} {bor:List Blk} {res:Av} {bor' news:List Blk} (hf:P.funcs[f]? =some fn) (hb:fn.body=some c)
  (hnm:(fn.name== "runtime.NumGoroutine")=false) (hn:decide (args.length≤fn.ntmps)=true) (hnb:Nat.ble bor.length 64=true) (hlen:Nat.beq bor'.length bor.length=true)
  (h:∀ E:Env,E.n=fn.ntmps→E.nb=bor.length→
    W P E c (bodyPost P fn fun e w'=>∃ v β' F',e= .returned v∧AvR β' F' w' res v∧(∀ i b,bor'[i]? =some b→z0p β' F' w' i b)∧(∀ i b,news[i]? =some b→z0p β' F' w' (bor.length+i) b)∧
      Out E.w0 E.M E.F0 bor.length news.length E.β0 β' F' w') (.of (z0b 0 args) (z0b 0 bor))):Ct P f args bor res bor' news:=by
 refine⟨Nat.eq_of_beq_eq_true hlen,⟨fn,hf,hnm,by rw[hb]; rfl⟩,fun w β F vs hvl hvs hbor hinj hown hnone hF hgd=>?_⟩
 have hn':args.length≤fn.ntmps:=by simpa using hn
 have hnb':bor.length≤64:=by simpa using hnb
 refine(calls_of_wp hf hb (h ⟨w,fun g=>∃ i,i<bor.length∧β i=some g,fun b=>F b∨∃ i,i<bor.length∧β i=some b,fn.ntmps,bor.length,β,fun g h=>h,hgd,fun g h=> .inr h⟩ rfl rfl _ w ⟨β,F,fun i=>?_,?_,rfl,fun j=>?_,fun i j g hi hj=>?_,fun j g hj e=>?_,fun j g e=>?_,fun b hb=>⟨hF b hb,.inl (.inl hb)⟩,.refl _ _,fun i _=>rfl,hnb'⟩)).mono fun e w' hq=>?_
 ·simp only[St.of,z2X,Nat.zero_le,if_true,Nat.sub_zero]
  by_cases hi:i<args.length
  ·have h1:args[i]? =some args[i]:=by simp[hi]
   have h2:i<vs.length:=by omega
   rw[h1]
   simp only[Option.getD_some]
   refine hvs i args[i] _ h1 ?_
   simp[Array.getElem?_append,h2]
  ·have h1:args[i]? =none:=by simp; omega
   rw[h1]
   exact .any _
 ·simp[hvl]; omega
 ·simp only[St.of,z2X,Nat.zero_le,if_true,Nat.sub_zero]
  cases hb:bor[j]? with
  | none=>trivial
  | some b=>exact(hbor j b hb).1
 ·intro e1 e2
  simp only[St.of,z2X,Nat.zero_le,if_true,Nat.sub_zero] at hi hj
  have hi':i<bor.length:=by
   rcases Nat.lt_or_ge i bor.length with h | h
   ·exact h
   ·rw[List.getElem?_eq_none h] at hi; exact absurd rfl hi
  have hj':j<bor.length:=by
   rcases Nat.lt_or_ge j bor.length with h | h
   ·exact h
   ·rw[List.getElem?_eq_none h] at hj; exact absurd rfl hj
  exact hinj i j g hi' hj' e1 e2
 ·have hj':j<bor.length:=by
   simp only[St.of,z2X,Nat.zero_le,if_true,Nat.sub_zero] at hj
   rcases Nat.lt_or_ge j bor.length with h | h
   ·exact h
   ·rw[List.getElem?_eq_none h] at hj; exact absurd rfl hj
  obtain⟨a1,a2⟩:=hown j g hj' e
  exact⟨a1,.inr ⟨j,hj',e⟩,a2⟩
 ·rcases Nat.lt_or_ge j bor.length with h | h
  ·exact(hown j g h e).1
  ·rw[hnone j h] at e; cases e
 ·obtain⟨v,β',F',q1,q2,q3,q4,q5⟩:=hq
  refine⟨v,β',F',q1,q2,q3,q4,q5.hb,q5.inj,q5.own,q5.new,fun b hb=>⟨(q5.fr b hb).1,?_⟩,q5.keep⟩
  rcases (q5.fr b hb).2 with (h |⟨i,hi,h⟩) | h
  ·exact .inl h
  ·exact absurd hb (q5.own i b (Nat.lt_of_lt_of_le hi (Nat.le_add_right ..)) ((q5.hb i hi).trans h)).2
  ·exact .inr h
theorem z6V {E:Env} {σ:St} {a:Act} {w:World} {β:Nat→Option Nat} {F:Nat→Prop} {r:Av} {v:Value} {ks:List Nat} {res:Av} {bor' news:List Blk} {nb:Nat} (hS:SRb E β F σ a w) (hr:AvR β F w r v)
  (hnb:E.nb=nb) (hlb:bor'.length=nb) (hf:Fin σ r nb ks res bor' news) (hlv:z03 ((z0b 0 bor').map fun p=>p.2≠ .gone)):
  ∃ β' F',AvR β' F' w res v∧(∀ i b,bor'[i]? =some b→z0p β' F' w i b)∧(∀ i b,news[i]? =some b→z0p β' F' w (nb+i) b)∧Out E.w0 E.M E.F0 nb news.length E.β0 β' F' w:=by
 obtain⟨f1,f2,f3,f4⟩:=hf
 simp only[Bool.and_eq_true] at f4
 obtain⟨⟨⟨⟨⟨⟨o1,o2⟩,o3⟩,o4⟩,o5⟩,o6⟩,o7⟩:=f4
 have hkl:ks.length=news.length:=Nat.eq_of_beq_eq_true o5
 have hnd:ks.Nodup:=by simpa using o7
 have hρ1:∀ i,i<nb→rho nb ks i=i:=fun i hi=>by simp only[rho,show Nat.blt i nb=true from Nat.blt_eq.symm▸hi]
 have hρ2:∀ i,i<news.length→rho nb ks (nb+i)=ks.getD i 0:=fun i hi=>by
  have:Nat.blt (nb+i) nb=false:=by
   cases h:Nat.blt (nb+i) nb with
   | false=>rfl
   | true=>rw[Nat.blt_eq] at h; omega
  simp only[rho,this,Nat.add_sub_cancel_left]
 have hB1:∀ i b,bor'[i]? =some b→σ.hp i=b.ren (rho nb ks):=fun i b hi=>by
  have:=z1U f2 _ (z2r bor' 0 i b hi)
  simpa using this
 have hB2:∀ i b,news[i]? =some b→σ.hp (rho nb ks (nb+i))=b.ren (rho nb ks):=fun i b hi=>by
  have:=z1U f3 _ (z2r news nb i b hi)
  simpa using this
 have hren:∀ b:Blk,b≠ .gone→b.ren (rho nb ks)≠ .gone:=by intro b hb; cases b<;>simp_all [Blk.ren]
 have hl1:∀ i,i<nb→σ.hp i≠ .gone:=fun i hi=>by
  have h1:bor'[i]? =some (bor'[i]'(by omega)):=by simp[show i<bor'.length by omega]
  rw[hB1 i _ h1]
  have:=z1U hlv _ (z2r bor' 0 i _ h1)
  exact hren _ (by simpa using this)
 have hl2:∀ i,i<news.length→σ.hp (rho nb ks (nb+i))≠ .gone:=fun i hi=>by
  have h1:news[i]? =some news[i]:=by simp[hi]
  rw[hB2 i _ h1]
  refine hren _ ?_
  have:=List.all_eq_true.1 o4 news[i] (List.getElem_mem hi)
  intro e
  rw[e] at this
  cases this
 have hk64:∀ i,i<news.length→64≤rho nb ks (nb+i):=fun i hi=>by
  rw[hρ2 i hi]
  have hm:ks.getD i 0 ∈ ks:=by
   rw[List.getD_eq_getElem?_getD,List.getElem?_eq_getElem (by omega),Option.getD_some]
   exact List.getElem_mem _
  have:=List.all_eq_true.1 o6 _ hm
  simpa using this
 have hlive':∀ i,i<nb+news.length→σ.hp (rho nb ks i)≠ .gone:=fun i hi=>by
  rcases Nat.lt_or_ge i nb with h | h
  ·rw[hρ1 i h]; exact hl1 i h
  ·obtain⟨d,rfl⟩:∃ d,i=nb+d:=⟨i -nb,by omega⟩
   exact hl2 d (by omega)
 have hρinj:∀ i j,i<nb+news.length→j<nb+news.length→rho nb ks i=rho nb ks j→i=j:=fun i j hi hj e=>by
  have hn64:=hS.nbl
  rcases Nat.lt_or_ge i nb with h | h
  ·rcases Nat.lt_or_ge j nb with h' | h'
   ·rw[hρ1 i h,hρ1 j h'] at e; exact e
   ·obtain⟨d,rfl⟩:∃ d,j=nb+d:=⟨j -nb,by omega⟩
    have:=hk64 d (by omega)
    rw[←e,hρ1 i h] at this
    omega
  ·obtain⟨d,rfl⟩:∃ d,i=nb+d:=⟨i -nb,by omega⟩
   rcases Nat.lt_or_ge j nb with h' | h'
   ·have:=hk64 d (by omega)
    rw[e,hρ1 j h'] at this
    omega
   ·obtain⟨d',rfl⟩:∃ d,j=nb+d:=⟨j -nb,by omega⟩
    rw[hρ2 d (by omega),hρ2 d' (by omega)] at e
    rw[List.getD_eq_getElem?_getD,List.getD_eq_getElem?_getD,List.getElem?_eq_getElem (by omega),List.getElem?_eq_getElem (by omega),Option.getD_some,Option.getD_some] at e
    have:=(List.getElem_inj hnd).1 e
    omega
 refine⟨fun i=>β (rho nb ks i),F,(f1▸hr).unren (fun _ _=>rfl) o1,fun i b hi=>?_,fun i b hi=>?_,fun i hi=>?_,fun i j g hi hj e1 e2=>hρinj i j hi hj (hS.inj _ _ g (hlive' i hi) (hlive' j hj) e1 e2),fun j g hj e=>?_,fun i g hi e=>?_,hS.fr,hS.keep⟩
 ·have hlt:i<nb:=by rw[←hlb]; exact(List.getElem?_eq_some_iff.1 hi).1
  refine z0p.unren (ρ:=rho nb ks) (n:=nb+news.length) (fun _ _=>rfl) ?_ (by omega) (List.all_eq_true.1 o2 b (List.mem_of_getElem? hi))
  rw[hρ1 i hlt,←hB1 i b hi]
  exact hS.hp i
 ·refine z0p.unren (ρ:=rho nb ks) (n:=nb+news.length) (fun _ _=>rfl) ?_ (by have:=(List.getElem?_eq_some_iff.1 hi).1; omega) (List.all_eq_true.1 o3 b (List.mem_of_getElem? hi))
  rw[←hB2 i b hi]
  exact hS.hp _
 ·simp only[hρ1 i hi]
  exact hS.bb i (by omega)
 ·obtain⟨a1,_,a3⟩:=hS.own _ g (hlive' j hj) e
  exact⟨a1,a3⟩
 ·obtain⟨_,a2,_⟩:=hS.own _ g (hl2 i hi) e
  rcases a2 with a2 | a2
  ·exact a2
  ·exfalso
   obtain⟨k,hk,hk'⟩:=E.hM g a2
   rw[hnb] at hk
   have e':β k=some g:=(hS.bb k (by omega)).trans hk'
   have:=hS.inj _ _ g (hl2 i hi) (hl1 k hk) e e'
   have h64:=hk64 i hi
   have:=hS.nbl
   omega
end Go.Sx
namespace Go.Sx
open Go
set_option linter.unusedVariables false
def zfc (P:Program) (σ:St):ResultVar→Option (List Prop×Av)
 | .tmp t=>some (ox σ (.tmp t))
 | .cell p ty=>z9v P σ ty (ox σ (.tmp p))
def z8n (P:Program) (σ:St):List ResultVar→Option (List Prop×List Av)
 | []=>some ([],[])
 | x::l=>match zfc P σ x,z8n P σ l with | some (p,y),some (q,ys)=>some (p++q,y::ys) | _,_=>none
def z4t (P:Program) (σ:St) (l:List ResultVar):Option (List Prop×Av):=
 match z8n P σ l with
 | some (p,[x])=>some (p,x)
 | some (p,xs)=>some (p,.tup xs)
 | none=>none
theorem zal {P:Program} {w:World} {t:TypeId} {v z:Value} (h:(Instr.loadAt t v).run P w= .ok z w):(do loadVar t (←asAddr v):Sem Value).run P w= .ok z w:=by
 cases v with
 | pointer a=>
   cases a with
   | some a=>simpa[Instr.loadAt,Instr.sureAddr,asAddr] using h
   | none=>simp[Instr.loadAt,Instr.sureAddr] at h
 | _=>simp[Instr.loadAt,Instr.sureAddr] at h
def zin (tmps:Array Value):ResultVar→Sem Value
 | .tmp t=>pure (tmps.getD t undef)
 | .cell a t=>do loadVar t (←asAddr (tmps.getD a undef))
theorem z8Q {P:Program} {E:Env} {σ:St} {a:Act} {w:World} {β:Nat→Option Nat} {F:Nat→Prop} (hS:SRb E β F σ a w):∀(l:List ResultVar) (ps:List Prop) (ys:List Av),z8n P σ l=some (ps,ys)→z03 ps→
  ∃ vs:List Value,(l.mapM (m:=Sem) (zin a.tmps)).run P w= .ok vs w∧vs.length=ys.length∧∀(i:Nat) (y:Av) (v:Value),ys[i]? =some y→vs[i]? =some v→AvR β F w y v
 | [],ps,ys,h,hp=>by
   simp only[z8n,Option.some.injEq,Prod.mk.injEq] at h
   obtain⟨_,rfl⟩:=h
   exact⟨[],by simp,rfl,fun i y v hy=>by simp at hy⟩
 | x::l,ps,ys,h,hp=>by
   simp only[z8n] at h
   split at h
   ·rename_i p y q ys' e1 e2
    simp only[Option.some.injEq,Prod.mk.injEq] at h
    obtain⟨rfl,rfl⟩:=h
    obtain⟨vs,h1,h2,h3⟩:=z8Q hS l q ys' e2 hp.right
    have hv:∃ v,(zin a.tmps x).run P w= .ok v w∧AvR β F w y v:=by
     cases x with
     | tmp t=>
       simp only[zfc,Option.some.injEq] at e1
       have:=oxR hS (.tmp t)
       rw[e1] at this
       exact⟨_,rfl,this hp.left⟩
     | cell c ty=>
       simp only[zfc] at e1
       obtain⟨z,k1,k2⟩:=z8P e1 hp.left hS (oxR hS (.tmp c))
       exact⟨z,zal k1,k2⟩
    obtain⟨v,hv1,hv2⟩:=hv
    refine⟨v::vs,by simp[List.mapM_cons,hv1,h1],by simp[h2],fun i y' v' hy hv'=>?_⟩
    match i,hy,hv' with
    | 0,hy,hv'=>simp at hy hv'; subst hy; subst hv'; exact hv2
    | i+1,hy,hv'=>exact h3 i y' v' (by simpa using hy) (by simpa using hv')
   ·cases h
theorem z4u {P:Program} {E:Env} {σ:St} {a:Act} {w:World} {β:Nat→Option Nat} {F:Nat→Prop} (hS:SRb E β F σ a w) {fn:Func} {ps:List Prop} {r:Av} (h:z4t P σ fn.results.toList=some (ps,r)) (hp:z03 ps):
  ∃ v,(results fn a.tmps).run P w= .ok v w∧AvR β F w r v:=by
 unfold z4t at h
 have key:∀(p:List Prop) (ys:List Av),z8n P σ fn.results.toList=some (p,ys)→z03 p→∃ vs:List Value,(results fn a.tmps).run P w= .ok (if h:vs.toArray.size=1 then vs.toArray[0] else .tuple vs.toArray) w∧vs.length=ys.length∧∀(i:Nat) (y:Av) (v:Value),ys[i]? =some y→vs[i]? =some v→AvR β F w y v:=by
  intro p ys e hp
  obtain⟨vs,h1,h2,h3⟩:=z8Q hS _ p ys e hp
  refine⟨vs,?_,h2,h3⟩
  have e2:(results fn a.tmps)=(do let vs ←fn.results.mapM (m:=Sem) (zin a.tmps); pure (if h:vs.size=1 then vs[0] else .tuple vs)):=by
   unfold results
   congr 1
  rw[e2,Array.mapM_eq_mapM_toList]
  simp only[Sem.run_bind,Sem.run_map,h1,Result.andThen_ok,Sem.run_pure]
 split at h
 ·rename_i p x e
  simp only[Option.some.injEq,Prod.mk.injEq] at h
  obtain⟨rfl,rfl⟩:=h
  obtain⟨vs,h1,h2,h3⟩:=key _ _ e hp
  match vs,h2 with
  | [v],_=>exact⟨v,by simpa using h1,h3 0 _ v rfl rfl⟩
 ·rename_i p xs hne e
  simp only[Option.some.injEq,Prod.mk.injEq] at h
  obtain⟨rfl,rfl⟩:=h
  obtain⟨vs,h1,h2,h3⟩:=key _ _ e hp
  have hn:vs.toArray.size≠1:=by
   intro h
   have:xs.length=1:=by rw[←h2]; simpa using h
   obtain⟨x,rfl⟩:=List.length_eq_one_iff.1 this
   exact hne x rfl
  rw[dif_neg hn] at h1
  exact⟨_,h1,.tup _ _ (by simpa using h2) fun i y v hy hv=>h3 i y v hy (by simpa using hv)⟩
 ·cases h
theorem zfd {P:Program} {E:Env} {σ:St} {fn:Func} {ps:List Prop} {r res:Av} {bor' news:List Blk} {nb:Nat} (ks:List Nat) (hr:z4t P σ fn.results.toList=some (ps,r)) (hp:z03 ps) (hf:Fin σ r nb ks res bor' news)
  (hnb:E.nb=nb) (hlb:bor'.length=nb) (hlv:z03 ((z0b 0 bor').map fun p=>p.2≠ .gone)):
  N E (bodyPost P fn fun e w'=>∃ v β' F',e= .returned v∧AvR β' F' w' res v∧(∀ i b,bor'[i]? =some b→z0p β' F' w' i b)∧(∀ i b,news[i]? =some b→z0p β' F' w' (nb+i) b)∧Out E.w0 E.M E.F0 nb news.length E.β0 β' F' w') .ret σ:=by
 intro a w hS
 obtain⟨β,F,hS⟩:=hS
 obtain⟨v,h1,h2⟩:=z4u hS hr hp
 obtain⟨β',F',g1,g2,g3,g4⟩:=z6V hS h2 hnb hlb hf hlv
 exact⟨hS.df,v,h1,v,β',F',rfl,g1,g2,g3,g4⟩
theorem zru {P:Program} {E:Env} {σ:St} {fn:Func} {ps:List Prop} {r res:Av} {bor' news:List Blk} {nb:Nat} (ks:List Nat) (hr:z4t P σ fn.results.toList=some (ps,r)) (hp:z03 ps) (hf:Fin σ r nb ks res bor' news)
  (hnb:E.nb=nb) (hlb:bor'.length=nb) (hlv:z03 ((z0b 0 bor').map fun p=>p.2≠ .gone)):
  N E (bodyPost P fn fun e w'=>∃ v β' F',e= .returned v∧AvR β' F' w' res v∧(∀ i b,bor'[i]? =some b→z0p β' F' w' i b)∧(∀ i b,news[i]? =some b→z0p β' F' w' (nb+i) b)∧Out E.w0 E.M E.F0 nb news.length E.β0 β' F' w') .normal σ:=by
 intro a w hS
 obtain⟨β,F,hS⟩:=hS
 obtain⟨v,h1,h2⟩:=z4u hS hr hp
 obtain⟨β',F',g1,g2,g3,g4⟩:=z6V hS h2 hnb hlb hf hlv
 exact⟨hS.df,v,h1,v,β',F',rfl,g1,g2,g3,g4⟩
def nk (d:Option Nat) (i:Nat):Nat:=64+(d.getD 0)+1000*i
def St.kills (σ:St):List Nat→St
 | []=>σ
 | k::ks=>(σ.kill k).kills ks
def z07 (d:Option Nat):Nat→List Nat
 | 0=> []
 | n+1=>z07 d n++ [nk d n]
def St.sets (σ:St):List (Nat×Blk)→St
 | []=>σ
 |(j,b)::l=>(σ.seth j b).sets l
theorem SRb.kills {E:Env} {F:Nat→Prop} {a:Act} {w:World}:∀(ks:List Nat) {β:Nat→Option Nat} {σ:St},SRb E β F σ a w→(∀ k,k ∈ ks→E.nb≤k)→∃ β',SRb E β' F (σ.kills ks) a w∧∀ k,(β k=none∨k ∈ ks)→β' k=none
 | [],β,σ,h,_=>⟨β,h,fun k hk=>hk.elim id (fun h=>by cases h)⟩
 | k::ks,β,σ,h,hk=>by
   obtain⟨β',h1,h2⟩:=SRb.kills ks (h.kill k (hk k (List.mem_cons_self ..))) (fun j hj=>hk j (List.mem_cons_of_mem _ hj))
   refine⟨β',h1,fun j hj=>h2 j ?_⟩
   rcases hj with hj | hj
   ·left
    show(if j=k then none else β j)=none
    split
    ·rfl
    ·exact hj
   ·cases hj with
    | head=>left; simp
    | tail _ hj=>exact .inr hj
theorem z6D:∀(l:List (Nat×Blk)) (σ:St) (j:Nat),(∀ p,p ∈ l→p.1≠j)→(σ.sets l).hp j=σ.hp j
 | [],σ,j,_=>rfl
 |(k,b)::l,σ,j,h=>by
  simp only[St.sets]
  rw[z6D l _ j (fun p hp=>h p (List.mem_cons_of_mem _ hp))]
  have:j≠k:=fun e=>h (k,b) (List.mem_cons_self ..) e.symm
  simp[St.seth,this]
theorem zam:∀(l:List (Nat×Blk)) (σ:St),(σ.sets l).tm=σ.tm
 | [],σ=>rfl
 |(k,b)::l,σ=>by simp only[St.sets]; rw[zam l]; rfl
theorem z6u:∀(l:List (Nat×Blk)) (σ:St) (j:Nat) (b:Blk),(l.map (·.1)).Nodup→(j,b) ∈ l→(σ.sets l).hp j=b
 |(k,c)::l,σ,j,b,hnd,h=>by
  simp only[List.map_cons,List.nodup_cons] at hnd
  simp only[St.sets]
  cases h with
  | head=>
    rw[z6D l _ k (fun p hp e=>hnd.1 (List.mem_map.2 ⟨p,hp,e⟩))]
    simp[St.seth]
  | tail _ h=>exact z6u l _ j b hnd.2 h
def z0B (bs:List Nat) (d:Option Nat) (nn:Nat) (i:Nat):Nat:=
 match Nat.blt i bs.length with
 | true=>bs.getD i 0
 | false=>nk d (i -bs.length)
def oxs (σ:St):List Operand→List Prop×List Av
 | []=>([],[])
 | x::l=>((ox σ x).1++(oxs σ l).1,(ox σ x).2::(oxs σ l).2)
theorem z59 {E:Env} {β:Nat→Option Nat} {F:Nat→Prop} {σ:St} {a:Act} {w:World} (h:SRb E β F σ a w):∀(l:List Operand),z03 (oxs σ l).1→(oxs σ l).2.length=l.length∧∀(i:Nat) (y:Av) (v:Value),(oxs σ l).2[i]? =some y→(l.map a.eval)[i]? =some v→AvR β F w y v
 | [],_=>⟨rfl,fun i y v hy=>by simp[oxs] at hy⟩
 | x::l,hp=>by
   obtain⟨h1,h2⟩:=z59 h l hp.right
   refine⟨by simp[oxs,h1],fun i y v hy hv=>?_⟩
   match i,hy,hv with
   | 0,hy,hv=>
     simp[oxs] at hy hv
     subst hy; subst hv
     exact oxR h x hp.left
   | i+1,hy,hv=>exact h2 i y v (by simpa[oxs] using hy) (by simpa using hv)
structure CallOk (σ:St) (ys:List Av) (xs:List Av) (bor:List Blk) (res:Av) (bor' news:List Blk) (bs:List Nat) (d:Option Nat):Prop where
 cargs:ys=xs.map (Av.ren (z0B bs d news.length))
 cbor:z03 ((z0b 0 bor).map fun p=>σ.hp (bs.getD p.1 0)=p.2.ren (z0B bs d news.length))
 cgone:z03 ((z0b 0 bor).map fun p=>p.2≠ .gone)
 cok:(xs.all (Av.ok bs.length)&&bor.all (Blk.ok bs.length)&&res.ok (bs.length+news.length)&&bor'.all (Blk.ok (bs.length+news.length))&&news.all (Blk.ok (bs.length+news.length))&&
  Nat.beq bs.length bor.length&&decide (bs++z07 d news.length).Nodup)=true
theorem z1y {d:Option Nat}:∀(n k:Nat),k ∈ z07 d n↔∃ i,i<n∧k=nk d i
 | 0,k=>by simp[z07]
 | n+1,k=>by
   simp only[z07,List.mem_append,z1y n k,List.mem_singleton]
   constructor
   ·rintro(⟨i,h1,h2⟩ | h)
    ·exact⟨i,by omega,h2⟩
    ·exact⟨n,by omega,h⟩
   ·rintro⟨i,h1,h2⟩
    by_cases hi:i=n
    ·subst hi; exact .inr h2
    ·exact .inl ⟨i,by omega,h2⟩
def z4v:List Nat→List Blk→List (Nat×Blk)
 | j::js,b::bs=>(j,b)::z4v js bs
 | _,_=> []
theorem z30:∀(js:List Nat) (bs:List Blk),js.length=bs.length→(z4v js bs).map (·.1)=js
 | [],[],_=>rfl
 | j::js,b::bs,h=>by simp[z4v,z30 js bs (by simpa using h)]
theorem z95:∀(js:List Nat) (bs:List Blk) (i j:Nat) (b:Blk),js[i]? =some j→bs[i]? =some b→(j,b) ∈ z4v js bs
 | j::js,b::bs,0,j',b',h1,h2=>by simp at h1 h2; subst h1; subst h2; simp[z4v]
 | j::js,b::bs,i+1,j',b',h1,h2=>List.mem_cons_of_mem _ (z95 js bs i j' b' (by simpa using h1) (by simpa using h2))
def z0u (σ:St) (bs:List Nat) (d:Option Nat) (bor' news:List Blk):St:=
 (σ.sets (z4v bs (bor'.map (Blk.ren (z0B bs d news.length))))).sets (z4v (z07 d news.length) (news.map (Blk.ren (z0B bs d news.length))))
theorem z8R {d:Option Nat}:∀(n i:Nat),i<n→(z07 d n)[i]? =some (nk d i)
 | n+1,i,h=>by
   have hl:∀ n,(z07 d n).length=n:=by intro n; induction n with
    | zero=>rfl
    | succ n ih=>simp[z07,ih]
   simp only[z07]
   by_cases hi:i<n
   ·rw[List.getElem?_append_left (by rw[hl]; exact hi)]
    exact z8R n i hi
   ·obtain rfl:i=n:=by omega
    rw[List.getElem?_append_right (by rw[hl]; exact Nat.le_refl _),hl]
    simp
theorem zan {d:Option Nat} (n:Nat):(z07 d n).length=n:=by
 induction n with
 | zero=>rfl
 | succ n ih=>simp[z07,ih]
theorem Blk.ren_ne {ρ:Nat→Nat} {b:Blk} (hb:b≠ .gone):b.ren ρ≠ .gone:=by
 cases b with
 | gone=>exact absurd rfl hb
 | cells=>intro h; cases h
 | fr=>intro h; cases h
 | map=>intro h; cases h
 | raw=>intro h; cases h
 | mapS=>intro h; cases h
 | row=>intro h; cases h
structure OutM (w0:World) (M F0:Nat→Prop) (nb nn:Nat) (G:Nat→Prop) (β β':Nat→Option Nat) (F':Nat→Prop) (w:World):Prop where
 hb:∀ i,i<nb→β' i=β i
 inj:∀ i j g,i<nb+nn→j<nb+nn→¬ G i→¬ G j→β' i=some g→β' j=some g→i=j
 own:∀ j g,j<nb+nn→¬ G j→β' j=some g→g<w.heap.size∧¬ F' g
 lt:∀ j g,j<nb+nn→β' j=some g→g<w.heap.size
 new:∀ i g,i<nn→β' (nb+i)=some g→w0.heap.size≤g∨∃ j,j<nb∧G j∧β j=some g
 fr:∀ b,F' b→b<w.heap.size∧(F0 b∨w0.heap.size≤b∨∃ j,j<nb∧β j=some b)
 keep:Keep w0 M w
def z21 (bor':List Blk) (i:Nat):Prop:=bor'[i]? =some .gone
def CtM (P:Program) (f:FuncId) (args:List Av) (bor:List Blk) (res:Av) (bor' news:List Blk):Prop:=
 bor'.length=bor.length∧(∃ fn,P.funcs[f]? =some fn∧(fn.name== "runtime.NumGoroutine")=false∧fn.body.isNone=false)∧
 ∀(w:World) (β:Nat→Option Nat) (F:Nat→Prop) (vs:List Value),vs.length=args.length→(∀(i:Nat) (x:Av) (v:Value),args[i]? =some x→vs[i]? =some v→AvR β F w x v)→
  (∀ i b,bor[i]? =some b→z0p β F w i b∧b≠ .gone)→(∀ i j g,i<bor.length→j<bor.length→β i=some g→β j=some g→i=j)→
  (∀ j g,j<bor.length→β j=some g→g<w.heap.size∧¬ F g)→(∀ j,bor.length≤j→β j=none)→(∀ b,F b→b<w.heap.size)→GdK w (fun g=>∃ i,i<bor.length∧β i=some g)→
  Calls P f vs.toArray w fun e w'=>∃ v β' F',e= .returned v∧AvR β' F' w' res v∧(∀ i b,bor'[i]? =some b→z0p β' F' w' i b)∧(∀ i b,news[i]? =some b→z0p β' F' w' (bor.length+i) b)∧
   OutM w (fun g=>∃ i,i<bor.length∧β i=some g) F bor.length news.length (z21 bor') β β' F' w'
theorem Ct.m {P:Program} {f:FuncId} {args:List Av} {bor:List Blk} {res:Av} {bor' news:List Blk} (h:Ct P f args bor res bor' news):CtM P f args bor res bor' news:=by
 obtain⟨h1,h2,h3⟩:=h
 refine⟨h1,h2,fun w β F vs a1 a2 a3 a4 a5 a6 a7 a8=>(h3 w β F vs a1 a2 a3 a4 a5 a6 a7 a8).mono fun e w' hq=>?_⟩
 obtain⟨v,β',F',q1,q2,q3,q4,q5⟩:=hq
 exact⟨v,β',F',q1,q2,q3,q4,⟨q5.hb,fun i j g hi hj _ _=>q5.inj i j g hi hj,fun j g hj _=>q5.own j g hj,fun j g hj e=>(q5.own j g hj e).1,fun i g hi e=> .inl (q5.new i g hi e),fun b hb=>⟨(q5.fr b hb).1,(q5.fr b hb).2.imp id .inl⟩,q5.keep⟩⟩
set_option maxHeartbeats 4000000 in
theorem z5a {P:Program} {E:Env} {σ:St} {a:Act} {w:World} {β:Nat→Option Nat} {F:Nat→Prop} {f:FuncId} {xs ys:List Av} {bor:List Blk} {res:Av} {bor' news:List Blk} {bs:List Nat} {d:Option Nat} {vs:List Value}
  (hF:CtM P f xs bor res bor' news) (hS:SRb E β F σ a w) (hnew:∀ i,β (nk d i)=none∨news.length≤i) (hC:CallOk σ ys xs bor res bor' news bs d)
  (hvl:vs.length=ys.length) (hvs:∀(i:Nat) (y:Av) (v:Value),ys[i]? =some y→vs[i]? =some v→AvR β F w y v):
  Calls P f vs.toArray w fun e w'=>∃ v,e= .returned v∧∃ β' F',AvR β' F' w' (res.ren (z0B bs d news.length)) v∧(∀(x:Cell) (u:Value),CellR β F w x u→CellR β' F' w' x u)∧(∀ j,j ∉ z07 d news.length→β' j=β j)∧SRb E β' F' (z0u σ bs d bor' news) a w':=by
 obtain⟨hlen,_,hcall⟩:=hF
 obtain⟨c1,c2,c3,c4⟩:=hC
 simp only[Bool.and_eq_true] at c4
 obtain⟨⟨⟨⟨⟨⟨o1,o2⟩,o3⟩,o4⟩,o5⟩,o6⟩,o7⟩:=c4
 have hbl:bs.length=bor.length:=Nat.eq_of_beq_eq_true o6
 have hnd:(bs++z07 d news.length).Nodup:=by simpa using o7
 have hndb:bs.Nodup:=(List.nodup_append.1 hnd).1
 have hndk:(z07 d news.length).Nodup:=(List.nodup_append.1 hnd).2.1
 have hdis:∀ j,j ∈ bs→j ∉ z07 d news.length:=fun j hj hk=>(List.nodup_append.1 hnd).2.2 j hj j hk rfl
 have hR1:∀ i,i<bs.length→z0B bs d news.length i=bs.getD i 0:=fun i hi=>by
  simp only[z0B,show Nat.blt i bs.length=true from Nat.blt_eq.symm▸hi]
 have hR2:∀ i,z0B bs d news.length (bs.length+i)=nk d i:=fun i=>by
  have:Nat.blt (bs.length+i) bs.length=false:=by
   cases h:Nat.blt (bs.length+i) bs.length with
   | false=>rfl
   | true=>rw[Nat.blt_eq] at h; omega
  simp only[z0B,this,Nat.add_sub_cancel_left]
 have hbget:∀ i,i<bs.length→bs[i]? =some (bs.getD i 0):=fun i hi=>by simp[hi]
 have hbmem:∀ i,i<bs.length→bs.getD i 0 ∈ bs:=fun i hi=>List.mem_of_getElem? (hbget i hi)
 have hbinj:∀ i j,i<bs.length→j<bs.length→bs.getD i 0=bs.getD j 0→i=j:=fun i j hi hj e=>by
  rw[List.getD_eq_getElem?_getD,List.getD_eq_getElem?_getD,List.getElem?_eq_getElem hi,List.getElem?_eq_getElem hj,Option.getD_some,Option.getD_some] at e
  exact(List.getElem_inj hndb).1 e
 have hbor:∀ i b,bor[i]? =some b→σ.hp (bs.getD i 0)=b.ren (z0B bs d news.length)∧b≠ .gone:=fun i b hi=>by
  have h1:=z1U c2 _ (z2r bor 0 i b hi)
  have h2:=z1U c3 _ (z2r bor 0 i b hi)
  exact⟨by simpa using h1,by simpa using h2⟩
 have hren:∀ b:Blk,b≠ .gone→b.ren (z0B bs d news.length)≠ .gone:=fun b hb=>Blk.ren_ne hb
 have hlive:∀ i,i<bs.length→σ.hp (bs.getD i 0)≠ .gone:=fun i hi=>by
  have h1:bor[i]? =some (bor[i]'(by omega)):=by simp[show i<bor.length by omega]
  rw[(hbor i _ h1).1]
  exact hren _ (hbor i _ h1).2
 -- the numbers as the contract sees them
 let βc:Nat→Option Nat:=fun i=>if i<bs.length then β (bs.getD i 0) else none
 have hβc:∀ i,i<bs.length→β (z0B bs d news.length i)=βc i:=fun i hi=>by
  simp only[βc,hi,if_true,hR1 i hi]
 refine(hcall w βc F vs (by rw[hvl,c1]; simp) (fun i x v hx hv=>?_) (fun i b hi=>?_) (fun i j g hi hj e1 e2=>?_) (fun j g hj e=>?_) (fun j hj=>?_) (fun b hb=>(hS.fr b hb).1) (hS.gd fun g hg=>?_)).mono ?_
 ·have hy:ys[i]? =some (x.ren (z0B bs d news.length)):=by rw[c1,List.getElem?_map,hx]; rfl
  exact(hvs i _ v hy hv).unren hβc (List.all_eq_true.1 o1 x (List.mem_of_getElem? hx))
 ·obtain⟨h1,h2⟩:=hbor i b hi
  have hlt:i<bs.length:=by rw[hbl]; exact(List.getElem?_eq_some_iff.1 hi).1
  refine⟨?_,h2⟩
  refine z0p.unren (ρ:=z0B bs d news.length) hβc ?_ hlt (List.all_eq_true.1 o2 b (List.mem_of_getElem? hi))
  rw[hR1 i hlt,←h1]
  exact hS.hp _
 ·simp only[βc,show i<bs.length by omega,show j<bs.length by omega,if_true] at e1 e2
  exact hbinj i j (by omega) (by omega) (hS.inj _ _ g (hlive i (by omega)) (hlive j (by omega)) e1 e2)
 ·simp only[βc,show j<bs.length by omega,if_true] at e
  obtain⟨a1,_,a3⟩:=hS.own _ g (hlive j (by omega)) e
  exact⟨a1,a3⟩
 ·simp only[βc,show ¬ j<bs.length by omega,if_false]
 ·obtain⟨i,hi,e⟩:=hg
  have hi':i<bs.length:=by omega
  simp only[βc,hi',if_true] at e
  exact⟨_,hlive i hi',e⟩
 ·rintro e w' ⟨v,β',F',rfl,hv,hb',hn',hO⟩
  refine⟨v,rfl,?_⟩
  obtain⟨q1,q2,q3,q3',q4,q5,q6⟩:=hO
  -- the caller's numbers behind the call
  let β2:Nat→Option Nat:=fun j=>if j ∈ z07 d news.length then β' (bs.length+(j -(64+d.getD 0))/1000) else β j
  have hnkd:∀ i,(nk d i -(64+d.getD 0))/1000=i:=fun i=>by simp only[nk]; omega
  have hβ2k:∀ i,i<news.length→β2 (nk d i)=β' (bs.length+i):=fun i hi=>by
   simp only[β2,(z1y news.length (nk d i)).2 ⟨i,hi,rfl⟩,if_true,hnkd]
  have hβ2o:∀ j,j ∉ z07 d news.length→β2 j=β j:=fun j hj=>by simp only[β2,hj,if_false]
  have hβ2:∀ i,i<bs.length+news.length→β2 (z0B bs d news.length i)=β' i:=fun i hi=>by
   rcases Nat.lt_or_ge i bs.length with h | h
   ·rw[hR1 i h,hβ2o _ (hdis _ (hbmem i h)),q1 i (by omega)]
    simp only[βc,h,if_true]
   ·obtain⟨k,rfl⟩:∃ k,i=bs.length+k:=⟨i -bs.length,by omega⟩
    rw[hR2 k,hβ2k k (by omega)]
  have hext:∀ j g,β j=some g→β2 j=some g:=fun j g hj=>by
   by_cases hm:j ∈ z07 d news.length
   ·obtain⟨i,hi,rfl⟩:=(z1y _ _).1 hm
    rcases hnew i with h | h
    ·rw[h] at hj; cases hj
    ·omega
   ·rw[hβ2o j hm]; exact hj
  have hMb:∀ g,(∃ i,i<bor.length∧βc i=some g)→∃ i,i<bs.length∧β (bs.getD i 0)=some g:=by
   rintro g ⟨i,hi,e⟩
   refine⟨i,by omega,?_⟩
   simpa only[βc,show i<bs.length by omega,if_true] using e
  have hsame:∀ k,k<w.heap.size→(∀ i,i<bs.length→β (bs.getD i 0)≠some k)→w'.heap[k]? =w.heap[k]?:=fun k hk hnb=>q6.block k hk fun hm=>by
   obtain⟨i,hi,e⟩:=hMb k hm
   exact hnb i hi e
  have hFs:∀ b,F b→w'.heap[b]? =w.heap[b]?:=fun b hb=>hsame b (hS.fr b hb).1 fun i hi e=>(hS.own _ b (hlive i hi) e).2.2 hb
  have hA:∀ {x:Av} {u:Value},AvR β F w x u→AvR β2 (fun b=>F b∨F' b) w' x u:=fun hx=>hx.mono hext (fun b hb=>⟨.inl hb,hFs b hb⟩) q6.cap
  have hF':∀ b,F' b→F b∨w.heap.size≤b∨∃ i,i<bs.length∧β (bs.getD i 0)=some b:=fun b hb=>(q5 b hb).2.imp id (fun h=>h.imp id (hMb b))
  have hAv':∀ {x:Av} {u:Value},AvR β' F' w' x u→AvR β' (fun b=>F b∨F' b) w' x u:=fun hx=>hx.mono (fun _ _ h=>h) (fun b hb=>⟨.inr hb,rfl⟩) (fun _ _ h=>h)
  have hBlk':∀ {i:Nat} {b:Blk},z0p β' F' w' i b→z0p β' (fun b=>F b∨F' b) w' i b:=fun {i b} hx=>by
   cases b with
   | gone=>trivial
   | map es=>
     obtain⟨g,ms,ck,e1,e2,e3,e4⟩:=hx
     exact⟨g,ms,ck,e1,e2,e3,fun i k x hx=>let ⟨e,q1,q2,q3⟩:=e4 i k x hx; ⟨e,q1,q2,q3.mono fun b hb=>⟨.inr hb,rfl⟩⟩⟩
   | raw g ob=>
     exact hx
   | mapS g ms ck es=>
     obtain⟨e1,e2,e3,e4⟩:=hx
     exact⟨e1,e2,e3,fun i k x hx=>let ⟨e,q1,q2,q3⟩:=e4 i k x hx; ⟨e,q1,q2,q3.mono fun b hb=>⟨.inr hb,rfl⟩⟩⟩
   | cells cs=>
     obtain⟨g,cur,hg,hr,hsz,hc⟩:=hx
     exact⟨g,cur,hg,hr,hsz,fun k x v hx hv=>(hc k x v hx hv).mono (fun _ _ h=>h) (fun b hb=>⟨.inr hb,rfl⟩) (fun _ _ h=>h)⟩
   | fr vs cs=>
     obtain⟨g,cur,hg,hr,hsz,hc⟩:=hx
     exact⟨g,cur,hg,hr,hsz,fun k x v hx hv=>(hc k x v hx hv).mono (fun _ _ h=>h) (fun b hb=>⟨.inr hb,rfl⟩) (fun _ _ h=>h)⟩
   | row dd=>
     cases dd with
     | ints k l=>exact hx
     | recs sz l=>
       refine⟨hx.1,?_⟩
       rcases hx.2 with h |⟨g,cur,hg,hr,hc⟩
       ·exact .inl h
       ·refine .inr ⟨g,cur,hg,hr,fun i r k x hi hk=>?_⟩
        obtain⟨u,hu,hl⟩:=hc i r k x hi hk
        exact⟨u,hu,hl.mono fun b hb=>⟨.inr hb,rfl⟩⟩
     | v=>exact hx
     | obj=>exact hx
  have hlenk:(z07 d news.length).length=(news.map (Blk.ren (z0B bs d news.length))).length:=by simp[zan]
  have hlenb:bs.length=(bor'.map (Blk.ren (z0B bs d news.length))).length:=by simp; omega
  have hK:∀ i,i<news.length→∀ b,news[i]? =some b→(z0u σ bs d bor' news).hp (nk d i)=b.ren (z0B bs d news.length):=fun i hi b hb=>by
   refine z6u _ _ _ _ (by rw[z30 _ _ hlenk]; exact hndk) (z95 _ _ i _ _ (z8R _ i hi) (by rw[List.getElem?_map,hb]; rfl))
  have hB:∀ i,i<bs.length→∀ b,bor'[i]? =some b→(z0u σ bs d bor' news).hp (bs.getD i 0)=b.ren (z0B bs d news.length):=fun i hi b hb=>by
   unfold z0u
   rw[z6D _ _ _ (fun p hp e=>?_)]
   ·exact z6u _ _ _ _ (by rw[z30 _ _ hlenb]; exact hndb) (z95 _ _ i _ _ (hbget i hi) (by rw[List.getElem?_map,hb]; rfl))
   ·have:p.1 ∈ (z4v (z07 d news.length) (news.map (Blk.ren (z0B bs d news.length)))).map (·.1):=List.mem_map.2 ⟨p,hp,rfl⟩
    rw[z30 _ _ hlenk,e] at this
    exact hdis _ (hbmem i hi) this
  have hO':∀ j,j ∉ z07 d news.length→j ∉ bs→(z0u σ bs d bor' news).hp j=σ.hp j:=fun j h1 h2=>by
   unfold z0u
   rw[z6D _ _ _ (fun p hp e=>?_),z6D _ _ _ (fun p hp e=>?_)]
   ·have:p.1 ∈ (z4v bs (bor'.map (Blk.ren (z0B bs d news.length)))).map (·.1):=List.mem_map.2 ⟨p,hp,rfl⟩
    rw[z30 _ _ hlenb,e] at this
    exact h2 this
   ·have:p.1 ∈ (z4v (z07 d news.length) (news.map (Blk.ren (z0B bs d news.length)))).map (·.1):=List.mem_map.2 ⟨p,hp,rfl⟩
    rw[z30 _ _ hlenk,e] at this
    exact h1 this
  have hcase:∀ j,(∃ i,i<news.length∧j=nk d i)∨(j ∉ z07 d news.length∧∃ i,i<bs.length∧j=bs.getD i 0)∨(j ∉ z07 d news.length∧j ∉ bs):=fun j=>by
   by_cases h1:j ∈ z07 d news.length
   ·exact .inl ((z1y _ _).1 h1)
   ·by_cases h2:j ∈ bs
    ·obtain⟨i,hi,e⟩:=List.mem_iff_getElem.1 h2
     exact .inr (.inl ⟨h1,i,hi,by simp[hi,e]⟩)
    ·exact .inr (.inr ⟨h1,h2⟩)
  have hG:∀ i,i<bs.length+news.length→(z0u σ bs d bor' news).hp (z0B bs d news.length i)≠ .gone→¬ z21 bor' i:=fun i hi hne hg=>by
   rcases Nat.lt_or_ge i bs.length with h | h
   ·rw[hR1 i h,hB i h _ hg] at hne
    exact hne rfl
   ·unfold z21 at hg
    have:=(List.getElem?_eq_some_iff.1 hg).1
    omega
  have hq4:∀ m g,m<news.length→β' (bs.length+m)=some g→w.heap.size≤g∨∃ k,k<bs.length∧β (bs.getD k 0)=some g:=fun m g hm e=>by
   rcases q4 m g hm (by rw[←hbl]; exact e) with h |⟨k,hk,_,hk'⟩
   ·exact .inl h
   ·exact .inr (hMb g ⟨k,hk,hk'⟩)
  -- a block of the contract, of the caller
  have hidx:∀ j g,(z0u σ bs d bor' news).hp j≠ .gone→β2 j=some g→(∃ i,i<bs.length+news.length∧j=z0B bs d news.length i∧β' i=some g∧¬ z21 bor' i)∨(j ∉ z07 d news.length∧j ∉ bs∧σ.hp j≠ .gone∧β j=some g):=fun j g hj e=>by
   rcases hcase j with ⟨i,hi,rfl⟩ |⟨h1,i,hi,rfl⟩ |⟨h1,h2⟩
   ·exact .inl ⟨bs.length+i,by omega,(hR2 i).symm,by rw[←hβ2k i hi]; exact e,hG _ (by omega) (by rw[hR2 i]; exact hj)⟩
   ·refine .inl ⟨i,by omega,(hR1 i hi).symm,?_,hG _ (by omega) (by rw[hR1 i hi]; exact hj)⟩
    rw[←hβ2 i (by omega),hR1 i hi]; exact e
   ·refine .inr ⟨h1,h2,?_,?_⟩
    ·rw[←hO' j h1 h2]; exact hj
    ·rw[←hβ2o j h1]; exact e
  refine⟨β2,fun b=>F b∨F' b,(hAv' hv).ren hβ2 o3,fun x u hx=>hx.mono hext (fun b hb=>⟨.inl hb,hFs b hb⟩) q6.cap,hβ2o,fun i=>?_,hS.sz,hS.df,fun j=>?_,fun i j g hi hj e1 e2=>?_,fun j g hj e=>?_,fun j g e=>?_,fun b hb=>?_,?_,fun i hi=>?_,hS.nbl⟩
  ·have:(z0u σ bs d bor' news).tm=σ.tm:=by unfold z0u; rw[zam,zam]
   rw[this]
   exact hA (hS.tm i)
  ·rcases hcase j with ⟨i,hi,rfl⟩ |⟨h1,i,hi,rfl⟩ |⟨h1,h2⟩
   ·have hb:news[i]? =some news[i]:=by simp[hi]
    rw[hK i hi _ hb,←hR2 i]
    have:=hn' i _ hb
    rw[←hbl] at this
    exact(hBlk' this).ren hβ2 (by omega) (List.all_eq_true.1 o5 _ (List.getElem_mem hi))
   ·have hb:bor'[i]? =some (bor'[i]'(by omega)):=by simp[show i<bor'.length by omega]
    rw[hB i hi _ hb,←hR1 i hi]
    exact(hBlk' (hb' i _ hb)).ren hβ2 (by omega) (List.all_eq_true.1 o4 _ (List.getElem_mem _))
   ·rw[hO' j h1 h2]
    by_cases hgone:σ.hp j= .gone
    ·rw[hgone]; trivial
    ·have:=(hS.hp j).mono (β':=β2) (w':=w') hext (hβ2o j h1) hFs q6.cap (fun g hg=>hsame g (hS.lt j g hg) fun i hi e=>h2 (hS.inj j _ g hgone (hlive i hi) hg e▸hbmem i hi))
     revert this
     cases σ.hp j with
     | gone=>exact fun _=>trivial
     | map es=>
       rintro⟨g,ms,ck,e1,e2,e3,e4⟩
       exact⟨g,ms,ck,e1,e2,e3,fun i k x hx=>let ⟨e,q1,q2,q3⟩:=e4 i k x hx; ⟨e,q1,q2,q3.mono fun b hb=>⟨.inl hb,rfl⟩⟩⟩
     | raw g ob=>
       exact fun h=>h
     | mapS g ms ck es=>
       rintro⟨e1,e2,e3,e4⟩
       exact⟨e1,e2,e3,fun i k x hx=>let ⟨e,q1,q2,q3⟩:=e4 i k x hx; ⟨e,q1,q2,q3.mono fun b hb=>⟨.inl hb,rfl⟩⟩⟩
     | cells cs=>
       rintro⟨g,cur,hg,hr,hsz,hc⟩
       exact⟨g,cur,hg,hr,hsz,fun k x v hx hv=>(hc k x v hx hv).mono (fun _ _ h=>h) (fun b hb=>⟨.inl hb,rfl⟩) (fun _ _ h=>h)⟩
     | fr vs cs=>
       rintro⟨g,cur,hg,hr,hsz,hc⟩
       exact⟨g,cur,hg,hr,hsz,fun k x v hx hv=>(hc k x v hx hv).mono (fun _ _ h=>h) (fun b hb=>⟨.inl hb,rfl⟩) (fun _ _ h=>h)⟩
     | row dd=>
       cases dd with
       | ints k l=>exact fun h=>h
       | recs sz l=>
         rintro⟨h0,h⟩
         refine⟨h0,?_⟩
         rcases h with h |⟨g,cur,hg,hr,hc⟩
         ·exact .inl h
         ·refine .inr ⟨g,cur,hg,hr,fun i r k x hi hk=>?_⟩
          obtain⟨u,hu,hl⟩:=hc i r k x hi hk
          exact⟨u,hu,hl.mono fun b hb=>⟨.inl hb,rfl⟩⟩
       | v=>exact fun h=>h
       | obj=>exact fun h=>h
  ·rcases hidx i g hi e1 with ⟨k,hk,rfl,e1',gk⟩ |⟨h1,h2,h3,e1'⟩
   ·rcases hidx j g hj e2 with ⟨k',hk',rfl,e2',gk'⟩ |⟨h1',h2',h3',e2'⟩
    ·rw[q2 k k' g (by omega) (by omega) gk gk' e1' e2']
    ·exfalso
     rcases Nat.lt_or_ge k bs.length with hlt | hge
     ·rw[q1 k (by omega)] at e1'
      simp only[βc,hlt,if_true] at e1'
      exact h2' (hS.inj j _ g h3' (hlive k hlt) e2' e1'▸hbmem k hlt)
     ·obtain⟨m,rfl⟩:∃ m,k=bs.length+m:=⟨k -bs.length,by omega⟩
      rcases hq4 m g (by omega) e1' with h |⟨k2,hk2,h⟩
      ·have:=hS.lt j g e2'
       omega
      ·exact h2' (hS.inj j _ g h3' (hlive k2 hk2) e2' h▸hbmem k2 hk2)
   ·rcases hidx j g hj e2 with ⟨k',hk',rfl,e2',gk'⟩ |⟨h1',h2',h3',e2'⟩
    ·exfalso
     rcases Nat.lt_or_ge k' bs.length with hlt | hge
     ·rw[q1 k' (by omega)] at e2'
      simp only[βc,hlt,if_true] at e2'
      exact h2 (hS.inj i _ g h3 (hlive k' hlt) e1' e2'▸hbmem k' hlt)
     ·obtain⟨m,rfl⟩:∃ m,k'=bs.length+m:=⟨k' -bs.length,by omega⟩
      rcases hq4 m g (by omega) e2' with h |⟨k2,hk2,h⟩
      ·have:=hS.lt i g e1'
       omega
      ·exact h2 (hS.inj i _ g h3 (hlive k2 hk2) e1' h▸hbmem k2 hk2)
    ·exact hS.inj i j g h3 h3' e1' e2'
  ·rcases hidx j g hj e with ⟨k,hk,rfl,e',gk⟩ |⟨h1,h2,h3,e'⟩
   ·obtain⟨a1,a2⟩:=q3 k g (by omega) gk e'
    refine⟨a1,?_,?_⟩
    ·rcases Nat.lt_or_ge k bs.length with hlt | hge
     ·rw[q1 k (by omega)] at e'
      simp only[βc,hlt,if_true] at e'
      exact(hS.own _ g (hlive k hlt) e').2.1
     ·obtain⟨m,rfl⟩:∃ m,k=bs.length+m:=⟨k -bs.length,by omega⟩
      rcases hq4 m g (by omega) e' with h |⟨k2,hk2,h⟩
      ·exact .inl (Nat.le_trans hS.keep.size h)
      ·exact(hS.own _ g (hlive k2 hk2) h).2.1
    ·rintro(hf | hf)
     ·rcases Nat.lt_or_ge k bs.length with hlt | hge
      ·rw[q1 k (by omega)] at e'
       simp only[βc,hlt,if_true] at e'
       exact(hS.own _ g (hlive k hlt) e').2.2 hf
      ·obtain⟨m,rfl⟩:∃ m,k=bs.length+m:=⟨k -bs.length,by omega⟩
       rcases hq4 m g (by omega) e' with h |⟨k2,hk2,h⟩
       ·have:=(hS.fr g hf).1
        omega
       ·exact(hS.own _ g (hlive k2 hk2) h).2.2 hf
     ·exact a2 hf
   ·obtain⟨a1,a2,a3⟩:=hS.own j g h3 e'
    refine⟨Nat.lt_of_lt_of_le a1 q6.size,a2,?_⟩
    rintro(hf | hf)
    ·exact a3 hf
    ·rcases hF' g hf with h | h |⟨i,hi,h⟩
     ·exact a3 h
     ·omega
     ·exact h2 (hS.inj j _ g h3 (hlive i hi) e' h▸hbmem i hi)
  ·by_cases hm:j ∈ z07 d news.length
   ·obtain⟨i,hi,rfl⟩:=(z1y _ _).1 hm
    rw[hβ2k i hi] at e
    exact q3' _ g (by omega) e
   ·rw[hβ2o j hm] at e
    exact Nat.lt_of_lt_of_le (hS.lt j g e) q6.size
  ·rcases hb with hb | hb
   ·exact⟨Nat.lt_of_lt_of_le (hS.fr b hb).1 q6.size,(hS.fr b hb).2⟩
   ·refine⟨(q5 b hb).1,?_⟩
    rcases hF' b hb with h | h |⟨i,hi,h⟩
    ·exact(hS.fr b h).2
    ·exact .inr (Nat.le_trans hS.keep.size h)
    ·rcases (hS.own _ b (hlive i hi) h).2.1 with h | h
     ·exact .inr h
     ·exact .inl (E.hM0 b h)
  ·refine hS.keep.trans q6 (fun _ h=>h) fun g hg hm=>?_
   obtain⟨i,hi,e⟩:=hMb g hm
   rcases (hS.own _ g (hlive i hi) e).2.1 with h | h
   ·omega
   ·exact h
  ·rw[hβ2o i (fun hm=>?_)]
   ·exact hS.bb i hi
   ·obtain⟨k,_,e⟩:=(z1y _ _).1 hm
    have:=hS.nbl
    simp only[nk] at e
    omega
theorem z6W {P:Program} {E:Env} {σ:St} {a:Act} {w:World} {β:Nat→Option Nat} {F:Nat→Prop} {f:FuncId} {xs ys:List Av} {bor:List Blk} {res:Av} {bor' news:List Blk} {bs:List Nat} {d:Option Nat} {vs:List Value}
  (hF:Ct P f xs bor res bor' news) (hS:SRb E β F σ a w) (hnew:∀ i,β (nk d i)=none∨news.length≤i) (hC:CallOk σ ys xs bor res bor' news bs d)
  (hvl:vs.length=ys.length) (hvs:∀(i:Nat) (y:Av) (v:Value),ys[i]? =some y→vs[i]? =some v→AvR β F w y v):
  Calls P f vs.toArray w fun e w'=>∃ v,e= .returned v∧∃ β' F',AvR β' F' w' (res.ren (z0B bs d news.length)) v∧(∀ j,j ∉ z07 d news.length→β' j=β j)∧SRb E β' F' (z0u σ bs d bor' news) a w':=by
 exact(z5a hF.m hS hnew hC hvl hvs).mono fun e w' ⟨v,e1,β',F',h1,_,h2,h3⟩=>⟨v,e1,β',F',h1,h2,h3⟩
theorem zgj {P:Program} {E:Env} {σ:St} {a:Act} {w:World} {β:Nat→Option Nat} {F:Nat→Prop} {f:FuncId} {xs ys:List Av} {bor:List Blk} {res:Av} {bor' news:List Blk} {bs:List Nat} {d:Option Nat} {vs:List Value}
  (hF:Ct P f xs bor res bor' news) (hS:SRb E β F σ a w) (hnew:∀ i,β (nk d i)=none∨news.length≤i) (hC:CallOk σ ys xs bor res bor' news bs d)
  (hvl:vs.length=ys.length) (hvs:∀(i:Nat) (y:Av) (v:Value),ys[i]? =some y→vs[i]? =some v→AvR β F w y v):
  Calls P f vs.toArray w fun e w'=>∃ v,e= .returned v∧∃ β' F',AvR β' F' w' (res.ren (z0B bs d news.length)) v∧SRb E β' F' (z0u σ bs d bor' news) a w':=by
 refine(z6W hF hS hnew hC hvl hvs).mono fun e w' h=>?_
 obtain⟨v,e1,β',F',h1,_,h2⟩:=h
 exact⟨v,e1,β',F',h1,h2⟩
end Go.Sx
namespace Go.Sx
open Go
set_option linter.unusedVariables false
section
variable {P:Program} {E:Env} {ops:Array Oper} {Q:Exit→Act→World→Prop} {rest:List Oper} {o:Oper} {σ:St}
theorem z22 {f:FuncId} {args:Array Value} {w:World} (h:∃ fn,P.funcs[f]? =some fn∧(fn.name== "runtime.NumGoroutine")=false∧fn.body.isNone=false):(callFunc f args).run P w= .ok (.enter f args) w:=by
 obtain⟨fn,h1,h2,h3⟩:=h
 simp only[callFunc,Sem.run_bind,run_program,Result.andThen_ok,h1]
 rw[if_neg (by simp[h2]),if_neg (by simp[h3])]
 rfl
theorem z0w {c:Call} {fo:Operand} {f:FuncId} {first cap:List Cell} {pf:List Prop} {xs:List Av} {bor:List Blk} {res:Av} {bor' news:List Blk} (bs:List Nat) (hF:Ct P f xs bor res bor' news)
  (hop:o.op= .call c) (hg:o.guard=none) (hd:z0e E.n o.dst=true) (hcv:c.callee= .value fo) (hfo:ox (σ.kills (z07 o.dst news.length)) fo=(pf,.c (.fn (.func f) first cap)))
  (hp:z03 (pf++(oxs (σ.kills (z07 o.dst news.length)) c.args.toList).1))
  (hC:CallOk (σ.kills (z07 o.dst news.length)) (first.map Av.c++(oxs (σ.kills (z07 o.dst news.length)) c.args.toList).2++cap.map Av.c) xs bor res bor' news bs o.dst)
  (hk:WL P E ops Q rest ((z0u (σ.kills (z07 o.dst news.length)) bs o.dst bor' news).put o.dst (res.ren (z0B bs o.dst news.length)))):WL P E ops Q (o::rest) σ:=by
 intro a w hS
 refine wpList_plain hg fun K hK=>?_
 obtain⟨β0,F,hS0⟩:=hS
 obtain⟨β,hS,hnone⟩:=hS0.kills (z07 o.dst news.length) (fun k hk=>by
  obtain⟨i,_,rfl⟩:=(z1y _ _).1 hk
  have:=hS0.nbl
  simp only[nk]; omega)
 generalize σ.kills (z07 o.dst news.length)=τ at*
 have hfv:=oxR hS fo
 rw[hfo] at hfv
 have hfv:=hfv hp.left
 generalize hv:a.eval fo=fv at hfv
 cases hfv with | c hfv=>cases hfv with | fn _ _ _ f1 c1 n1 n2 r1 r2=>
 obtain⟨l1,l2⟩:=z59 hS c.args.toList hp.right
 have hrun:(execOp a.eval o).run P w= .ok (.enter f (f1++c.args.map a.eval++c1)) w:=by
  simp only[execOp,hop,resolve,hcv,hv,Deferred.ofValue,Sem.run_bind,Sem.run_pure,Result.andThen_ok,invoke]
  exact z22 hF.2.1
 unfold Oper.wp
 rw[hrun,Oper.upon_enter]
 have hcore:=zgj (vs:=(f1++c.args.map a.eval++c1).toList) hF hS (fun i=>by
  rcases Nat.lt_or_ge i news.length with h | h
  ·exact .inl (hnone _ (.inr ((z1y _ _).2 ⟨i,h,rfl⟩)))
  ·exact .inr h) hC (by simp[n1,n2,l1]) (fun i y v hy hv=>by
   simp only[Array.toList_append,List.append_assoc] at hv
   rw[List.append_assoc] at hy
   rcases Nat.lt_or_ge i first.length with h | h
   ·rw[List.getElem?_append_left (by simpa using h)] at hy
    rw[List.getElem?_append_left (by simp[n1]; exact h)] at hv
    rw[List.getElem?_map,Option.map_eq_some_iff] at hy
    obtain⟨x,hx,rfl⟩:=hy
    exact .c (r1 i x v hx (by simpa using hv))
   ·rw[List.getElem?_append_right (by simpa using h)] at hy
    rw[List.getElem?_append_right (by simp[n1]; exact h)] at hv
    simp only[List.length_map,Array.length_toList,n1] at hy hv
    rcases Nat.lt_or_ge (i -first.length) c.args.toList.length with h' | h'
    ·rw[List.getElem?_append_left (by rw[l1]; exact h')] at hy
     rw[List.getElem?_append_left (by simpa using h')] at hv
     exact l2 _ y v hy (by simpa using hv)
    ·rw[List.getElem?_append_right (by rw[l1]; exact h')] at hy
     rw[List.getElem?_append_right (by simpa using h')] at hv
     rw[List.getElem?_map,Option.map_eq_some_iff] at hy
     obtain⟨x,hx,rfl⟩:=hy
     refine .c (r2 _ x v hx ?_)
     simp only[l1] at hx
     simpa[l1] using hv)
 rw[Array.toArray_toList] at hcore
 refine hcore.mono fun e w' hq=>?_
 obtain⟨v,rfl,β',F',hv',hS'⟩:=hq
 exact hK _ _ (hk _ _ ⟨β',F',hS'.put hv' (z0x hd)⟩)
def fresh (σ:St) (d:Option Nat):St:=σ.kill (nk d 0)
theorem SRb.fresh {β:Nat→Option Nat} {F:Nat→Prop} {a:Act} {w:World} (h:SRb E β F σ a w) (d:Option Nat):
  ∃ β',SRb E β' F (fresh σ d) a w∧β' (nk d 0)=none∧E.nb≤nk d 0∧(fresh σ d).hp (nk d 0)= .gone:=by
 have hb:E.nb≤nk d 0:=by have:=h.nbl; simp only[nk]; omega
 exact⟨_,h.kill (nk d 0) hb,by simp,hb,by simp[Sx.fresh,St.kill]⟩
theorem z3h {w:World} (cur:Array Value) (t:TypeId):Row (w.alloc (.cells cur t)) w.heap.size cur:=⟨t,(0,0),heap_alloc_new w _,.inl rfl⟩
theorem zgk {β:Nat→Option Nat} {F:Nat→Prop} {a:Act} {w:World} {j:Nat} (h:SRb E β F σ a w) (hj:β j=none) (hjb:E.nb≤j) (hgone:σ.hp j= .gone) {cur:Array Value} {t:TypeId} {cs:List Cell}
  (hsz:cur.size=cs.length) (hc:∀(i:Nat) (x:Cell) (v:Value),cs[i]? =some x→cur[i]? =some v→CellR β F w x v):
  ∃ β',SRb E β' F (σ.seth j (.cells cs)) a (w.alloc (.cells cur t))∧β' j=some w.heap.size:=by
 have hβ:∀ i g,β i=some g→(if i=j then some w.heap.size else β i)=some g:=by
  intro i g hi
  rw[if_neg (by intro e; subst e; rw[hj] at hi; cases hi)]; exact hi
 have hs:∀ k,k<w.heap.size→(w.alloc (.cells cur t)).heap[k]? =w.heap[k]?:=fun k hk=>RowKit.Below.heap_alloc w _ k hk
 obtain⟨h1,h2⟩:=h.alloc hj hjb hgone (.cells cur t) (.cells cs) ⟨w.heap.size,cur,by simp,z3h cur t,Nat.le_of_eq hsz.symm,fun i x v hx hv=>
  (hc i x v hx hv).mono hβ (fun b hb=>⟨hb,hs b (h.fr b hb).1⟩) (fun g n hc=>hc.same (hs g hc.lt))⟩
 exact⟨_,h1,by simp⟩
theorem zdU {β:Nat→Option Nat} {F:Nat→Prop} {a:Act} {w:World} {j:Nat} (h:SRb E β F σ a w) (hj:β j=none) (hjb:E.nb≤j) (hgone:σ.hp j= .gone) {cur:Array Value} {t:TypeId} {d:Leaf} {vs:List Value}
  (hr:RC F w d vs) (hc:∀(i:Nat) (v:Value),vs[i]? =some v→cur[i]? =some v):
  ∃ β',SRb E β' F (σ.seth j (.row d)) a (w.alloc (.cells cur t))∧β' j=some w.heap.size:=by
 have hs:∀ k,k<w.heap.size→(w.alloc (.cells cur t)).heap[k]? =w.heap[k]?:=fun k hk=>RowKit.Below.heap_alloc w _ k hk
 obtain⟨h1,h2⟩:=h.alloc hj hjb hgone (.cells cur t) (.row d) (z4S (vs:=vs) (by simp) (z3h cur t) (hr.mono fun b hb=>⟨hb,hs b (h.fr b hb).1⟩) hc)
 exact⟨_,h1,by simp⟩
theorem zkx {t:TypeId} {cs:List Cell} (hop:o.op= .alloc t) (hg:o.guard=none) (hd:z0e E.n o.dst=true) (hz:z68 P t=some cs) (hz0:z01 P t)
  (hk:WL P E ops Q rest (((fresh σ o.dst).seth (nk o.dst 0) (.cells cs)).put o.dst (.c (.ptr (nk o.dst 0) 0)))):WL P E ops Q (o::rest) σ:=by
 refine z4l hg _ (fun a w hS=>?_) hk
 obtain⟨β,F,hS⟩:=hS
 obtain⟨β',hS',h1,h2,h3⟩:=hS.fresh o.dst
 obtain⟨z,z1,z2,z3⟩:=z6t hz hz0 β' F w
 obtain⟨β2,hS2,h4⟩:=zgk (t:=t) hS' h1 h2 h3 z2 z3
 refine⟨.pointer (some ⟨w.heap.size,0,none⟩),w.alloc (.cells z.cells t),?_,β2,F,hS2.put (.c (.ptr _ _ _ h4)) (z0x hd)⟩
 simp[execOp,hop,Instr.alloc,z1,newVar,newRow]
theorem zrv {t:TypeId} {x:Operand} {ps:List Prop} {y:Av} {cs:List Cell} (hop:o.op= .box t x) (hg:o.guard=none) (hd:z0e E.n o.dst=true) (hx:ox (fresh σ o.dst) x=(ps,y)) (hp:z03 ps) (hcs:z2f y=some cs) (hu:z3G y=false)
  (hk:WL P E ops Q rest (((fresh σ o.dst).seth (nk o.dst 0) (.cells cs)).put o.dst (.c (.ptr (nk o.dst 0) 0)))):WL P E ops Q (o::rest) σ:=by
 refine z4l hg _ (fun a w hS=>?_) hk
 obtain⟨β,F,hS⟩:=hS
 obtain⟨β',hS',h1,h2,h3⟩:=hS.fresh o.dst
 have hv:=oxR hS' x
 rw[hx] at hv
 obtain⟨k1,k2⟩:=z6U (hv hp) hcs (by intro h; subst h; simp[z3G] at hu)
 obtain⟨β2,hS2,h4⟩:=zgk (t:=t) hS' h1 h2 h3 k1 k2
 refine⟨.pointer (some ⟨w.heap.size,0,none⟩),w.alloc (.cells (a.eval x).cells t),?_,β2,F,hS2.put (.c (.ptr _ _ _ h4)) (z0x hd)⟩
 simp[execOp,hop,Instr.box,newVar,newRow]
end
end Go.Sx
namespace Go.Sx
open Go
set_option linter.unusedVariables false
def Elt (P:Program) (t e:TypeId) (sz by_:Nat):Prop:=P.underlying t=some (.slice e)∧∃ i z,P.info? e=some i∧i.zero=some z∧i.size=sz∧i.bytes=by_∧z.cells.size=sz
theorem z0n {P:Program} {t e:TypeId} {z:Value} {sz by_:Nat} (h1:P.underlying t=some (.slice e)) (h2:(P.info? e).map (fun i=>(i.zero,i.size,i.bytes))=some (some z,sz,by_)) (h3:z.cells.size=sz):Elt P t e sz by_:=by
 obtain⟨i,hi,a,b,c⟩:=info_parts h2
 exact⟨h1,i,z,hi,a,b,c,h3⟩
theorem Row.frozen {w:World} {g:Nat} {cur:Array Value} (h:Row w g cur) {j:Nat} (hj:j<cur.size):w.frozen? ⟨g,j,none⟩=false:=by
 obtain⟨t,fr,h,hf⟩:=h
 obtain⟨f1,f2⟩:=fr
 simp only[World.frozen?,h]
 simp only at hf
 simp only[Bool.and_eq_false_iff,decide_eq_false_iff_not]
 omega
theorem Row.set {w:World} {g:Nat} {cur:Array Value} (h:Row w g cur) (j:Nat) (v:Value):Row (w.setCell ⟨g,j,none⟩ v) g (cur.setIfInBounds j v):=by
 obtain⟨t,fr,h,hf⟩:=h
 refine⟨t,fr,?_,by simpa using hf⟩
 simp[World.setCell,Array.getElem?_modify,h]
theorem zdI {w:World} {g:Nat} {t:TypeId} (h:z0X w g (.tag t)) (j:Nat) (v:Value):z0X (w.setCell ⟨g,j,none⟩ v) g (.tag t):=by
 obtain⟨cur,fr,h⟩:=h
 refine⟨cur.setIfInBounds j v,fr,?_⟩
 simp[World.setCell,Array.getElem?_modify,h]
structure Wr (w w':World) (g:Nat) (cur':Array Value):Prop where
 os:w'.os=w.os
 tape:w'.tape=w.tape
 output:w'.output=w.output
 size:w'.heap.size=w.heap.size
 other:∀ k,k≠g→w'.heap[k]? =w.heap[k]?
 row:Row w' g cur'
 tag:∀ t,z0X w g (.tag t)→z0X w' g (.tag t)
def lay (cur:Array Value) (off:Nat) (vs:List Value):Array Value:=(cur.toList.take off++vs++cur.toList.drop (off+vs.length)).toArray
theorem z3K {cur:Array Value} {off:Nat} {vs:List Value} (h:off+vs.length≤cur.size):(lay cur off vs).size=cur.size:=by simp[lay]; omega
theorem z3B {cur:Array Value} {off:Nat} {vs:List Value} (h:off+vs.length≤cur.size) (i:Nat):(lay cur off vs)[i]? =if i<off then cur[i]? else if i<off+vs.length then vs[i -off]? else cur[i]?:=by
 simp only[lay,List.getElem?_toArray,List.append_assoc]
 by_cases h1:i<off
 ·rw[List.getElem?_append_left (by simp; omega),List.getElem?_take,if_pos h1,if_pos h1]; simp
 ·rw[if_neg h1,List.getElem?_append_right (by simp; omega)]
  simp only[List.length_take,Array.length_toList,show min off cur.size=off by omega]
  by_cases h2:i<off+vs.length
  ·rw[if_pos h2,List.getElem?_append_left (by omega)]
  ·rw[if_neg h2,List.getElem?_append_right (by omega),List.getElem?_drop]
   simp only[Array.getElem?_toList]
   congr 1
   omega
theorem z1q {P:Program} {g off:Nat}:∀(vs:List Value) (i:Nat) (w:World) (cur:Array Value),(∀ v,v ∈ vs→v.oneCell'=true)→Row w g cur→off+i+vs.length≤cur.size→
  ∃ w',(storeCells ⟨g,off,none⟩ vs i).run P w= .ok () w'∧Wr w w' g (lay cur (off+i) vs)
 | [],i,w,cur,h1,hr,hs=>by
   refine⟨w,by simp[storeCells],rfl,rfl,rfl,rfl,fun _ _=>rfl,?_,fun _ h=>h⟩
   have:lay cur (off+i) []=cur:=by
    apply Array.toList_inj.1
    simp[lay]
   rw[this]; exact hr
 | v::vs,i,w,cur,h1,hr,hs=>by
   simp only[List.length_cons] at hs
   have hlt:off+i<cur.size:=by omega
   have hc:w.cell? ⟨g,off+i,none⟩=some cur[off+i]:=by rw[hr.cell]; simp[hlt]
   obtain⟨w',r1,r2⟩:=z1q (P:=P) (g:=g) (off:=off) vs (i+1) (w.setCell ⟨g,off+i,none⟩ v) (cur.setIfInBounds (off+i) v) (fun u hu=>h1 u (List.mem_cons_of_mem _ hu)) (hr.set (off+i) v) (by simp; omega)
   refine⟨w',?_,?_⟩
   ·simp only[storeCells,z0D,Sem.run_bind,run_store P w _ v .plain (h1 v (List.mem_cons_self ..)),hc,hr.frozen hlt,Bool.false_eq_true,if_false,Result.andThen_ok]
    exact r1
   ·obtain⟨a1,a2,a3,a4,a5,a6,a7⟩:=r2
    refine⟨a1,a2,a3,by rw[a4]; simp,fun k hk=>(a5 k hk).trans (heap_setCell_other w _ k v hk),?_,fun t ht=>a7 t (zdI ht _ _)⟩
    have e:lay (cur.setIfInBounds (off+i) v) (off+(i+1)) vs=lay cur (off+i) (v::vs):=by
     apply Array.ext_getElem?
     intro k
     rw[z3B (by simp; omega),z3B (by simp; omega)]
     simp only[Array.getElem?_setIfInBounds,List.length_cons]
     by_cases k1:k<off+i
     ·rw[if_pos (by omega),if_neg (by omega),if_pos k1]
     ·by_cases k2:k=off+i
      ·subst k2
       rw[if_pos (by omega),if_pos rfl,if_pos hlt,if_neg (by omega),if_pos (by omega)]
       simp
      ·rw[if_neg (by omega),if_neg k1]
       by_cases k3:k<off+i+(vs.length+1)
       ·rw[if_pos (by omega),if_pos k3]
        obtain⟨m,rfl⟩:∃ m,k=off+i+1+m:=⟨k -(off+i+1),by omega⟩
        rw[show off+i+1+m -(off+(i+1))=m by omega,show off+i+1+m -(off+i)=m+1 by omega]
        rfl
       ·rw[if_neg (by omega),if_neg (by omega),if_neg k3]
    rw[e] at a6
    exact a6
theorem SRb.written {E:Env} {σ:St} {β:Nat→Option Nat} {F:Nat→Prop} {a:Act} {w w':World} (h:SRb E β F σ a w) {j g:Nat} {cur cur':Array Value} {blk:Blk} (hj:σ.hp j≠ .gone) (hg:β j=some g) (hrow:Row w g cur)
  (hw:Wr w w' g cur') (hs:cur'.size=cur.size) (hblk:z0p β F w' j blk):SRb E β F (σ.seth j blk) a w'∧∀ {x:Av} {v:Value},AvR β F w x v→AvR β F w' x v:=
 h.upd hj hg hrow hw.os hw.tape hw.output hw.size hw.other hw.row hw.tag hs hblk
theorem Wr.cells {β:Nat→Option Nat} {F:Nat→Prop} {w w':World} {g:Nat} {cur cur':Array Value} (hw:Wr w w' g cur') (hrow:Row w g cur) (hs:cur'.size=cur.size) (hF:¬ F g) {x:Cell} {v:Value} (h:CellR β F w x v):CellR β F w' x v:=by
 refine h.mono (fun _ _ h=>h) (fun b hb=>⟨hb,hw.other b (fun e=>hF (e▸hb))⟩) (fun g' n hc=>?_)
 by_cases e:g'=g
 ·subst e
  cases n with
  | tag t=>exact hw.tag t hc
  | sz n=>
    obtain⟨c2,⟨t,fr,h1,h2⟩,h3⟩:=hc
    obtain⟨t',fr',h1',_⟩:=hrow
    rw[h1] at h1'
    simp only[Option.some.injEq,Obj.cells.injEq] at h1'
    obtain⟨rfl,_,_⟩:=h1'
    exact⟨cur',hw.row,by omega⟩
 ·exact hc.same (hw.other g' e)
theorem Wr.leafs {F:Nat→Prop} {w w':World} {g:Nat} {cur':Array Value} (hw:Wr w w' g cur') (hF:¬ F g) {d:Leaf} {vs:List Value} (h:RC F w d vs):RC F w' d vs:=
 h.mono fun b hb=>⟨hb,hw.other b (fun e=>hF (e▸hb))⟩
section
variable {P:Program} {E:Env} {ops:Array Oper} {Q:Exit→Act→World→Prop} {rest:List Oper} {o:Oper} {σ:St}
def z6X (cs:List Cell) (off:Nat) (xs:List Cell):List Cell:=cs.take off++xs++cs.drop (off+xs.length)
def zrw (P:Program) (E:Env) (o:Oper) (σ σ':St):Prop:=∀ a w,SR E σ a w→∃ w',(execOp a.eval o).run P w= .ok .skip w'∧SR E σ' (a.put o.dst undef) w'
def z8o (P:Program) (E:Env) (o:Oper) (σ σ':St):Prop:=∀ β F a w,SRb E β F σ a w→∃ w',(execOp a.eval o).run P w= .ok .skip w'∧SRb E β F σ' (a.put o.dst undef) w'
theorem z8o.k {P:Program} {E:Env} {o:Oper} {σ σ':St} (h:z8o P E o σ σ'):zrw P E o σ σ':=fun a w ⟨β,F,hS⟩=>(h β F a w hS).imp fun w' h=>⟨h.1,β,F,h.2⟩
theorem zaN {t:TypeId} {x y:Operand} {px py:List Prop} {j off:Nat} {v:Av} {cs xs:List Cell} (hop:o.op= .store t x y) (hdn:o.dst=none) (hx:ox σ x=(px,.c (.ptr j off))) (hy:ox σ y=(py,v)) (hp:z03 (px++py))
  (hb:σ.hp j= .cells cs) (hxs:z2f v=some xs) (hu:z3G v=false) (hsz:P.cellsOf t=xs.length∧(P.info? t).isSome=true∧off+xs.length≤cs.length):z8o P E o σ (σ.seth j (.cells (z6X cs off xs))):=by
 intro β F a w hS
 have hv1:=oxR hS x
 rw[hx] at hv1
 have hv1:=hv1 hp.left
 have hv2:=oxR hS y
 rw[hy] at hv2
 have hv2:=hv2 hp.right
 generalize he1:a.eval x=v1 at hv1
 generalize he2:a.eval y=v2 at hv2
 dsimp only at hv1 hv2
 cases hv1 with | c hv1=>cases hv1 with | ptr _ _ g hgj=>
 obtain⟨k1,k2⟩:=z6U hv2 hxs (by intro h; subst h; simp[z3G] at hu)
 have hB:=hS.hp j
 rw[hb] at hB
 obtain⟨g',cur,hg',hrow,hcs,hcc⟩:=hB
 rw[hgj] at hg'
 obtain rfl:=Option.some.inj hg'
 have hgone:σ.hp j≠ .gone:=by rw[hb]; intro h; cases h
 obtain⟨_,_,hnF⟩:=hS.own j g hgone hgj
 obtain⟨s1,s2,s3⟩:=hsz
 obtain⟨w',r1,r2⟩:=z1q (P:=P) (g:=g) (off:=off) v2.cells.toList 0 w cur (fun u hu=>by
  obtain⟨i,hi,rfl⟩:=List.mem_iff_getElem.1 hu
  have hlt:i<xs.length:=by rw[←k1]; simpa using hi
  exact(k2 i xs[i] _ (by simp[hlt]) (by simp at hi; simp[hi])).one) hrow (by simp[k1]; omega)
 simp only[Nat.add_zero] at r2
 have hfit:off+v2.cells.toList.length≤cur.size:=by simp[k1]; omega
 have hls:(lay cur off v2.cells.toList).size=cur.size:=z3K hfit
 refine⟨w',?_,?_⟩
 ·simp only[execOp,hop,he1,he2,Instr.storeAt,Instr.sureAddr,storeVar,Sem.run_bind,Sem.run_pure,Result.andThen_ok,z0M s2,s1,k1,ne_eq,not_true_eq_false,if_false,r1,Sem.run_ite]
 ·have hfin:=hS.written hgone hgj hrow r2 hls (blk:= .cells (z6X cs off xs)) ⟨g,_,hgj,r2.row,by rw[hls]; simp[z6X]; omega,fun i x u hxi hui=>?_⟩
  ·rw[hdn]; exact hfin.1
  ·rw[z3B hfit] at hui
   simp only[z6X,List.append_assoc] at hxi
   by_cases h1:i<off
   ·rw[if_pos h1] at hui
    rw[List.getElem?_append_left (by simp; omega),List.getElem?_take,if_pos h1] at hxi
    exact r2.cells hrow hls hnF (hcc i x u hxi hui)
   ·rw[if_neg h1] at hui
    rw[List.getElem?_append_right (by simp; omega)] at hxi
    simp only[List.length_take,show min off cs.length=off by omega] at hxi
    by_cases h2:i<off+xs.length
    ·rw[if_pos (by simp[k1]; omega)] at hui
     rw[List.getElem?_append_left (by omega)] at hxi
     exact r2.cells hrow hls hnF (k2 _ x u hxi (by simpa using hui))
    ·rw[if_neg (by simp[k1]; omega)] at hui
     rw[List.getElem?_append_right (by omega),List.getElem?_drop] at hxi
     rw[show off+xs.length+(i -off -xs.length)=i by omega] at hxi
     exact r2.cells hrow hls hnF (hcc i x u hxi hui)
theorem zky {t:TypeId} {x y:Operand} {px py:List Prop} {j off:Nat} {v:Av} {cs xs:List Cell} (hop:o.op= .store t x y) (hg:o.guard=none) (hdn:o.dst=none) (hx:ox σ x=(px,.c (.ptr j off))) (hy:ox σ y=(py,v)) (hp:z03 (px++py))
 (hb:σ.hp j= .cells cs) (hxs:z2f v=some xs) (hu:z3G v=false) (hsz:P.cellsOf t=xs.length∧(P.info? t).isSome=true∧off+xs.length≤cs.length)
 (hk:WL P E ops Q rest (σ.seth j (.cells (z6X cs off xs)))):WL P E ops Q (o::rest) σ:=zaj hg _ (zaN hop hdn hx hy hp hb hxs hu hsz).k hk
theorem z9w {t:TypeId} {x y:Operand} {px py:List Prop} {j off:Nat} {k:IntKind} {n:Int} {l:List Int} (hop:o.op= .store t x y) (hdn:o.dst=none) (hx:ox σ x=(px,.c (.ptr j off))) (hy:ox σ y=(py,lv (.int k n)))
  (hp:z03 (px++py)) (hb:σ.hp j= .row (.ints k l)) (hsz:P.cellsOf t=1) (hlt:off<l.length):z8o P E o σ (σ.seth j (.row (.ints k (l.set off n)))):=by
 intro β F a w hS
 have hv1:=oxR hS x
 rw[hx] at hv1
 have hv1:=hv1 hp.left
 have hv2:=oxR hS y
 rw[hy] at hv2
 have hv2:=(hv2 hp.right).val
 generalize he1:a.eval x=v1 at hv1
 dsimp only at hv1
 cases hv1 with | c hv1=>cases hv1 with | ptr _ _ g hgj=>
 have hB:=hS.hp j
 rw[hb] at hB
 have hgone:σ.hp j≠ .gone:=by rw[hb]; intro h; cases h
 obtain⟨_,_,hnF⟩:=hS.own j g hgone hgj
 rcases hB with ⟨h0,_⟩ |⟨g',cur,hg',hrow,hcc⟩
 ·subst h0; simp at hlt
 ·rw[hgj] at hg'
  obtain rfl:=Option.some.inj hg'
  have hlc:off<cur.size:=by
   have:=hcc off l[off] (by simp[hlt])
   exact(Array.getElem?_eq_some_iff.1 this).1
  have hi:(P.info? t).isSome=true:=z0J (by rw[hsz]; decide)
  obtain⟨w',r1,r2⟩:=z1q (P:=P) (g:=g) (off:=off) [.int k n] 0 w cur (fun u hu=>by rw[List.mem_singleton.1 hu]; rfl) hrow (by simp; omega)
  simp only[Nat.add_zero] at r2
  have hfit:off+ [Value.int k n].length≤cur.size:=by simp; omega
  have hls:=z3K hfit
  refine⟨w',?_,?_⟩
  ·simp only[execOp,hop,he1,hv2,Instr.storeAt,Instr.sureAddr,storeVar,Sem.run_bind,Sem.run_pure,Result.andThen_ok,z0M hi,hsz,Value.cells,List.size_toArray,List.length_cons,List.length_nil,Nat.zero_add,ne_eq,not_true_eq_false,if_false,r1,Sem.run_ite]
  ·have hfin:=hS.written hgone hgj hrow r2 hls (blk:= .row (.ints k (l.set off n))) (.inr ⟨g,_,hgj,r2.row,fun i z hz=>?_⟩)
   ·rw[hdn]; exact hfin.1
   ·rw[z3B hfit]
    rw[List.getElem?_set] at hz
    simp only[List.length_cons,List.length_nil,Nat.zero_add]
    by_cases h1:i<off
    ·rw[if_pos h1]
     rw[if_neg (by omega)] at hz
     exact hcc i z hz
    ·rw[if_neg h1]
     by_cases h2:off=i
     ·subst h2
      rw[if_pos rfl,if_pos hlt] at hz
      rw[if_pos (by omega)]
      simp at hz
      simp[hz]
     ·rw[if_neg h2] at hz
      rw[if_neg (by omega)]
      exact hcc i z hz
theorem zcb {t:TypeId} {x y:Operand} {px py:List Prop} {j off:Nat} {k:IntKind} {n:Int} {l:List Int} (hop:o.op= .store t x y) (hg:o.guard=none) (hdn:o.dst=none) (hx:ox σ x=(px,.c (.ptr j off))) (hy:ox σ y=(py,lv (.int k n)))
 (hp:z03 (px++py)) (hb:σ.hp j= .row (.ints k l)) (hsz:P.cellsOf t=1) (hlt:off<l.length) (hk:WL P E ops Q rest (σ.seth j (.row (.ints k (l.set off n))))):WL P E ops Q (o::rest) σ:=zaj hg _ (z9w hop hdn hx hy hp hb hsz hlt).k hk
theorem zoY {t e:TypeId} {x y:Operand} {px py:List Prop} {k:IntKind} {kl kc:IntKind} {n c:Int} {by_:Nat} (hop:o.op= .makeSlice t x y) (hg:o.guard=none) (hd:z0e E.n o.dst=true) (hE:Elt P t e 1 by_) (hz:(P.info? e).bind (·.zero)=some (.int k 0))
  (hx:ox (fresh σ o.dst) x=(px,lv (.int kl n))) (hy:ox (fresh σ o.dst) y=(py,lv (.int kc c))) (hp:z03 (px++py)) (hn:0≤n∧n≤c∧c≤9223372036854775807∧(by_:Int)*c≤281474976710656)
  (hk:WL P E ops Q rest (((fresh σ o.dst).seth (nk o.dst 0) (.row (.ints k (List.replicate n.toNat 0)))).put o.dst (.c (.own (nk o.dst 0) 1 0 n.toNat)))):WL P E ops Q (o::rest) σ:=by
 refine z4l hg _ (fun a w hS=>?_) hk
 obtain⟨β,F,hS⟩:=hS
 obtain⟨β',hS',h1,h2,h3⟩:=hS.fresh o.dst
 have hv1:=oxR hS' x
 rw[hx] at hv1
 have hv1:=(hv1 hp.left).val
 have hv2:=oxR hS' y
 rw[hy] at hv2
 have hv2:=(hv2 hp.right).val
 obtain⟨ht,i,z,hi,hz',hsz,hby,_⟩:=hE
 have:z= .int k 0:=by simpa[hi,hz'] using hz
 subst this
 obtain⟨c1,c2,c3,c4⟩:=hn
 have hrun:=run_make (P:=P) w t e i (.int k 0) ht hi hz' kl kc n c c1 c2 (by rw[hby]; exact c4) c3
 simp only[hsz,Nat.mul_one] at hrun
 have hget:∀ j,j<c.toNat→(madeCells (Value.int k 0).cells c.toNat)[j]? =some (.int k 0):=fun j hj=>by
  simp[madeCells,Value.cells,hj,Nat.mod_one]
 obtain⟨β2,hS2,h4⟩:=zdU (t:=e) (cur:=madeCells (Value.int k 0).cells c.toNat) (vs:=List.replicate n.toNat (Value.int k 0)) (d:= .ints k (List.replicate n.toNat 0)) hS' h1 h2 h3 (by simp[RC]) (fun j v hv=>by
  rw[List.getElem?_replicate] at hv
  split at hv
  ·rename_i hj
   rw[hget j (by omega)]; exact hv
  ·cases hv)
 refine⟨.slice (some ⟨w.heap.size,0,none⟩) n.toNat c.toNat,w.alloc (.cells (madeCells (Value.int k 0).cells c.toNat) e),?_,β2,F,hS2.put (.c (.own _ _ _ _ _ _ (by omega) (by simp only[maxLen]; omega) ?_)) (z0x hd)⟩
 ·simp only[execOp,hop,hv1,hv2,Sem.run_bind,hrun,Result.andThen_ok]
  rfl
 ·refine .inr ⟨_,h4,rfl,_,z3h _ _,?_⟩
  simp[madeCells]
end
theorem vcs {p:Prop} (h:p:=by first | trivial |(simp; done) |(simp; omega) |(simp at*; done) |(simp at*; omega)):p:=h
end Go.Sx

/-
  The layer: one word that walks on: every operation whose rule and sides are found by themselves, calls by the contracts at hand. No condition.
-/
import Derived.Test.YtaagjnlkinojcaaGreatSxU
import Derived.Test.YtaagjnlkinojcaaGreatSxW
import Derived.Test.YtaagjnlkinojcaaGreatSxK
import Derived.Test.YtaagjnlkinojcaaGreatSxS
import Derived.Test.YtaagjnlkinojcaaGreatSxC
import Derived.Test.YtaagjnlkinojcaaGreatSxN
namespace Go.Sx
open Go
set_option linter.unusedVariables false
set_option linter.unusedSimpArgs false
def z97:Cell→Option Nat
 | .ptr j _=>some j
 | .own j _ _ _=>some j
 | .pel j _ _ _=>some j
 | .tptr j _=>some j
 | .map j=>some j
 | .town j _ _ _=>some j
 | _=>none
def prC:List Cell→List Cell→List (Nat×Nat)
 | y::ys,x::xs=>match z97 x,z97 y with
   | some i,some j=>(i,j)::prC ys xs
   | _,_=>prC ys xs
 | _,_=> []
def prA:List Av→List Av→List (Nat×Nat)
 | .c y::ys,.c x::xs=>match z97 x,z97 y with
   | some i,some j=>(i,j)::prA ys xs
   | _,_=>prA ys xs
 | .agg y::ys,.agg x::xs=>prC y x++prA ys xs
 | _::ys,_::xs=>prA ys xs
 | _,_=> []
def prB (hp:Nat→Blk) (bor:List Blk):List (Nat×Nat)→List (Nat×Nat)
 | []=> []
 |(i,j)::l=>(match hp j,bor.getD i .gone with | .cells ys,.cells xs=>prC ys xs | _,_=> [])++prB hp bor l
def zp5:List (Nat×Nat)→Nat→Nat
 | [],_=>0
 |(i,j)::l,k=>match Nat.beq i k with | true=>j | false=>zp5 l k
def zkb (p:List (Nat×Nat)):Nat→List Blk→List Nat
 | _,[]=> []
 | i,_::l=>zp5 p i::zkb p (i+1) l
def ziJ (hp:Nat→Blk) (ys xs:List Av) (bor:List Blk):List Nat:=
 let p:=prA ys xs
 let q:=p++prB hp bor p
 let q:=q++prB hp bor q
 zkb q 0 bor
def zp6 {R:Type} (x:Nat) (k:Nat→R):R:=match x with
 | 0=>k 0
 | n+1=>k (n+1)
def z5B {R:Type}:List Nat→(List Nat→R)→R
 | [],k=>k []
 | x::l,k=>zp6 x fun x=>z5B l fun l=>k (x::l)
def z1W:List Cell→Option (List (Option IntKind))
 | []=>some []
 | .lf (.v (.int k _))::l=>(z1W l).map (some k:: ·)
 | .lf (.v (.bool _))::l=>(z1W l).map (none:: ·)
 | _=>none
def okF (P:Program):List Field→Nat→List (Option IntKind)→Bool
 | [],_,[]=>true
 | f::fs,i,k::ks=>f.name != "_" &&Nat.beq f.offset i&&Nat.beq (P.cellsOf f.type) 1&&(match k,P.underlying f.type with | some _,some (.int _)=>true | none,some .bool=>true | _,_=>false)&&okF P fs (i+1) ks
 | _,_,_=>false
def z8u (P:Program) (t:TypeId) (ks:List (Option IntKind)):Bool:=match P.underlying t with
 | some (.struct fs)=>!P.stoodInHeld t&&!P.eqGuardType P.depth t&&okF P fs.toList 0 ks
 | _=>false
theorem z7N {P:Program}:∀(fs:List Field) (i:Nat) (ks:List (Option IntKind)) (l m:List Cell),okF P fs i ks=true→z1W l=some ks→z1W m=some ks→zay P fs i l m
 | [],i,[],l,m,_,hl,hm=>by
   have:∀ l:List Cell,z1W l=some []→l= []:=by
    intro l h
    unfold z1W at h
    split at h<;>simp_all
   rw[this l hl,this m hm]
   trivial
 | f::fs,i,k::ks,l,m,h,hl,hm=>by
   simp only[okF,Bool.and_eq_true] at h
   obtain⟨⟨⟨⟨h1,h2⟩,h3⟩,h4⟩,h5⟩:=h
   have cut:∀ l:List Cell,z1W l=some (k::ks)→(∃ k' n l',k=some k'∧l= .lf (.v (.int k' n))::l'∧z1W l'=some ks)∨(∃ b l',k=none∧l= .lf (.v (.bool b))::l'∧z1W l'=some ks):=by
    intro l h
    unfold z1W at h
    split at h
    ·simp at h
    ·rename_i k' n l'
     obtain⟨q,hq,he⟩:=Option.map_eq_some_iff.1 h
     simp only[List.cons.injEq] at he
     obtain⟨rfl,rfl⟩:=he
     exact .inl ⟨_,_,_,rfl,rfl,hq⟩
    ·rename_i b l'
     obtain⟨q,hq,he⟩:=Option.map_eq_some_iff.1 h
     simp only[List.cons.injEq] at he
     obtain⟨rfl,rfl⟩:=he
     exact .inr ⟨_,_,rfl,rfl,hq⟩
    ·cases h
   rcases cut l hl with ⟨k1,n1,l1,e1,rfl,q1⟩ |⟨b1,l1,e1,rfl,q1⟩<;>rcases cut m hm with ⟨k2,n2,l2,e2,rfl,q2⟩ |⟨b2,l2,e2,rfl,q2⟩
   ·rw[e1] at e2 h4
    obtain rfl:=Option.some.inj e2
    refine⟨⟨by simpa using h1,Nat.eq_of_beq_eq_true h2,rfl,Nat.eq_of_beq_eq_true h3,?_⟩,z7N fs (i+1) ks l1 l2 h5 q1 q2⟩
    split at h4
    ·rename_i he
     exact⟨_,he⟩
    ·rename_i h _; cases h
    ·cases h4
   ·rw[e1] at e2; cases e2
   ·rw[e1] at e2; cases e2
   ·rw[e1] at h4
    refine⟨⟨by simpa using h1,Nat.eq_of_beq_eq_true h2,Nat.eq_of_beq_eq_true h3,?_⟩,z7N fs (i+1) ks l1 l2 h5 q1 q2⟩
    split at h4
    ·rename_i h _; cases h
    ·rename_i he; exact he
    ·cases h4
 | [],_,_::_,_,_,h,_,_=>by simp[okF] at h
 | _::_,_,[],_,_,h,_,_=>by simp[okF] at h
def z7O:Op→Option (Bool×TypeId×Operand×Operand)
 | .binOp .eql t y z _=>some (false,t,y,z)
 | .binOp .neq t y z _=>some (true,t,y,z)
 | _=>none
theorem zaX {op:Op} {neg:Bool} {t:TypeId} {y z:Operand} (h:z7O op=some (neg,t,y,z)):∃ t',op= .binOp (if neg then .neq else .eql) t y z t':=by
 unfold z7O at h
 split at h
 ·simp only[Option.some.injEq,Prod.mk.injEq] at h; obtain⟨rfl,rfl,rfl,rfl⟩:=h; exact⟨_,rfl⟩
 ·simp only[Option.some.injEq,Prod.mk.injEq] at h; obtain⟨rfl,rfl,rfl,rfl⟩:=h; exact⟨_,rfl⟩
 ·cases h
theorem z74 {P:Program} {E:Env} {ops:Array Oper} {o:Oper} {σ:St} {t:TypeId} {neg:Bool} {y z:Operand} {p q:List Prop} {l m:List Cell} {ks:List (Option IntKind)} (hop:z7O o.op=some (neg,t,y,z)) (hT:z8u P t ks=true) (hl:z1W l=some ks) (hm:z1W m=some ks)
  (hy:ox σ y=(p,.agg l)) (hz:ox σ z=(q,.agg m)) (hp:z03 (p++q)):z4V P E ops o σ (lv (.bool ((z2u l m)!=neg))):=by
 obtain⟨t',hop⟩:=zaX hop
 unfold z8u at hT
 split at hT
 ·rename_i fs hu
  simp only[Bool.and_eq_true,Bool.not_eq_true'] at hT
  obtain⟨⟨h1,h2⟩,h3⟩:=hT
  have hf:P.fieldsOf t=fs:=by simp[Program.fieldsOf,hu]
  intro τ hlk
  exact zaz hop (by rw[hf]; exact hu) h1 ((hlk.ox y (by rw[hop]; cases neg<;>simp[Op.operands])).trans hy) ((hlk.ox z (by rw[hop]; cases neg<;>simp[Op.operands])).trans hz) hp h2 (by rw[hf]; exact z7N _ _ _ _ _ h3 hl hm)
 ·cases hT
theorem Like.refl' {ops:Array Oper} {o:Oper} {σ:St}:Like ops o σ σ:=⟨rfl,fun _ _=>rfl,fun _ _ _ _ _=>rfl⟩
theorem bsN {l:List Int} (h:∀ x ∈ l,0≤x∧x<256):bs (strOfNums l)=l:=by
 simp only[bs,strOfNums_data,List.map_map]
 conv=>rhs; rw[←List.map_id l]
 apply List.map_congr_left
 intro x hx
 have:=h x hx
 simp only[Function.comp]
 rw[UInt8.toNat_ofNat']
 simp only[id]
 omega
theorem z5b {P:Program} {E:Env} {ops:Array Oper} {o:Oper} {σ:St} {s d e:TypeId} {y:Operand} {ps:List Prop} {l:List Int} (hop:o.op= .convert s d y) (hs:P.underlying s=some .string) (hd:P.underlying d=some (.slice e)) (he:P.underlying e=some (.int .u8))
  (hx:ox σ y=(ps,lv (.string (strOfNums l)))) (hw:∀ x ∈ l,0≤x∧x<256) (hl:l.length≤9223372036854775807) (hp:z03 ps):z4V P E ops o σ (.c (.lf (.ints .u8 l))):=by
 have h:=zfG (P:=P) (E:=E) (ops:=ops) hop hs hd he hx hp (by rw[strOfNums_size]; exact hl)
 rw[bsN hw] at h
 exact h
def z9I (full:Bool) (hp:Nat→Blk):Av→List Prop×Av
 | .c (.own j sz off len)=>match hp j with
   | .row (.ints k L)=>(match full,off with
     | true,0=>([sz=1,len=L.length],.c (.lf (.ints k L)))
     | _,off=>([sz=1,off+len≤L.length],.c (.lf (.ints k ((L.drop off).take len)))))
   | _=>([],.c (.own j sz off len))
 | .c (.ptr j off)=>match hp j with
   | .cells cs=>(match z5N cs with
     | some L=>(match off with
       | 0=>([],.c (.lf (.obj L)))
       | off=>([],.c (.lf (.obj (L.drop off)))))
     | none=>([],.c (.ptr j off)))
   | _=>([],.c (.ptr j off))
 | x=>([],x)
def z4B (full:Bool) (hp:Nat→Blk):List Av→List Prop×List Av
 | []=>([],[])
 | y::ys=>((z9I full hp y).1++(z4B full hp ys).1,(z9I full hp y).2::(z4B full hp ys).2)
theorem ziK {full:Bool} {σ:St} (y:Av) (h:z03 (z9I full σ.hp y).1):z96 σ y (z9I full σ.hp y).2:=by
 unfold z9I at h ⊢
 split
 ·rename_i j sz off len
  split
  ·rename_i k L hb
   simp only[hb] at h
   split
   ·rename_i hf ho
    obtain⟨rfl,rfl⟩:=h
    exact .inr (.inl ⟨j,0,_,k,L,rfl,hb,by omega,by simp⟩)
   ·rename_i hno
    have h':sz=1∧off+len≤L.length:=by
     split at h
     ·rename_i h1 h2
      exact absurd rfl (hno rfl)
     ·exact h
    obtain⟨rfl,h2⟩:=h'
    exact .inr (.inl ⟨j,off,len,k,L,rfl,hb,h2,rfl⟩)
  ·exact .inl rfl
 ·rename_i j off
  split
  ·rename_i cs hb
   split
   ·rename_i L hL
    split
    ·exact .inr (.inr ⟨j,0,cs,L,rfl,hb,hL,rfl⟩)
    ·exact .inr (.inr ⟨j,off,cs,L,rfl,hb,hL,rfl⟩)
   ·exact .inl rfl
  ·exact .inl rfl
 ·exact .inl rfl
theorem zaY {full:Bool} {σ:St}:∀(ys:List Av),z03 (z4B full σ.hp ys).1→z4b σ ys (z4B full σ.hp ys).2
 | [],_=>trivial
 | y::ys,h=>⟨ziK y h.left,zaY ys h.right⟩
def z3C {R:Type} (x:List Prop×List Av) (k:List Prop×List Av→R):R:=z6G x.1 fun ps=>go x.2 fun xs=>k (ps,xs)
where go:List Av→(List Av→R)→R
 | [],k=>k []
 | x::l,k=>z2v x fun x=>go l fun l=>k (x::l)
theorem z9J {R:Type}:∀(l:List Av) (k:List Av→R),z3C.go l k=k l
 | [],k=>rfl
 | x::l,k=>by simp only[z3C.go,z2A,z9J l]
theorem zft {R:Type} (x:List Prop×List Av) (k:List Prop×List Av→R):z3C x k=k x:=by simp only[z3C,z5n,z9J]
theorem z8v {full:Bool} {σ:St} {ys xs:List Av} {ps:List Prop} (h:z3C (z4B full σ.hp ys) some=some (ps,xs)) (hp:z03 ps):z4b σ ys xs:=by
 simp only[zft,Option.some.injEq] at h
 have h1:=zaY (full:=full) (σ:=σ) ys (by rw[h]; exact hp)
 rw[h] at h1
 exact h1
def zp7 (l:List Nat) (k:Nat):List Nat:=match z0c k l with | true=>l | false=>l++ [k]
def zfu:List Cell→List Nat→List Nat
 | [],l=>l
 | c::cs,l=>match z97 c with | some j=>zfu cs (zp7 l j) | none=>zfu cs l
def z9K:List Av→List Nat→List Nat
 | [],l=>l
 | .c c::ys,l=>(match z97 c with | some j=>z9K ys (zp7 l j) | none=>z9K ys l)
 | .agg cs::ys,l=>z9K ys (zfu cs l)
 | _::ys,l=>z9K ys l
def zp8:List Nat→Nat→Nat→Nat
 | [],_,n=>n
 | k::ks,j,n=>match Nat.beq k j with | true=>n | false=>zp8 ks j (n+1)
def zxy (ys:List Av):List Av:=ys.map (Av.ren (fun j=>zp8 (z9K ys []) j 0))
theorem zfv {P:Program} {E:Env} {o:Oper} {σ:St} {t e:TypeId} {y lo hi mx:Operand} {p pl ph pm:List Prop} {k kl kh km:IntKind} {xs:List Int} {i j m:Int} (hop:o.op= .slice t y (some lo) (some hi) (some mx)) (ht:P.underlying t=some (.slice e)) (h1:P.cellsOf e=1)
  (hy:ox σ y=(p,.c (.lf (.ints k xs)))) (hlo:ox σ lo=(pl,lv (.int kl i))) (hhi:ox σ hi=(ph,lv (.int kh j))) (hmx:ox σ mx=(pm,lv (.int km m))) (hp:z03 (p++(pl++(ph++pm)))) (hb:0≤i∧i≤j∧j≤m∧m≤(xs.length:Int)):
  OpY P E o σ (.c (.lf (.ints k ((xs.take j.toNat).drop i.toNat)))):=by
 refine z3D fun β F a w hS=>?_
 have hv:=oxR hS y
 rw[hy] at hv
 have hv:=hv hp.left
 have u1:=oxR hS lo
 rw[hlo] at u1
 have u1:=(u1 hp.right.left).val
 have u2:=oxR hS hi
 rw[hhi] at u2
 have u2:=(u2 hp.right.right.left).val
 have u3:=oxR hS mx
 rw[hmx] at u3
 have u3:=(u3 hp.right.right.right).val
 generalize he1:a.eval y=v1 at hv
 dsimp only at hv
 cases hv with | c hv=>cases hv with | lf hv=>
 have hv':=hv
 cases hv with | ints _ _ ad n c hn hc hm _=>
 have hi':(P.info? e).isSome=true:=z0J (by rw[h1]; decide)
 subst hn
 have hrun:=z5v (P:=P) (w:=w) (a:=ad) (lo:=some (.int kl i)) (hi:=some (.int kh j)) (mx:=some (.int km m)) ht hi' (Bd.some c (by omega)) (show m.toNat≤c by omega) (Bd.some xs.length (by omega)) (show j.toNat≤m.toNat by omega) (Bd.some 0 (by omega)) (show i.toNat≤j.toNat by omega) (fun _=>rfl)
 have hcut:=hv'.cut_ints (l:=i.toNat) (m:=j.toNat) (by omega) (by omega)
 refine⟨.slice (if m.toNat=i.toNat then ad else ad.map (·.add (i.toNat*P.cellsOf e))) (j.toNat -i.toNat) (m.toNat -i.toNat),w,F,?_,.refl w,fun _ h=>h,fun _ h=> .inl h,.c (.lf ?_)⟩
 ·simp only[execOp,hop,he1,u1,u2,u3,Option.map_some]
  exact z2x hrun
 ·cases hcut with | ints _ _ _ _ _ q1 q2 q3 q4=>
  refine .ints _ _ _ _ _ q1 (by omega) (by omega) fun hne=>?_
  obtain⟨b,o',e1,e2,e3⟩:=q4 hne
  have hlt:i.toNat<j.toNat:=by
   rcases Nat.lt_or_ge i.toNat j.toNat with h | h
   ·exact h
   ·exfalso; exact hne (List.eq_nil_of_length_eq_zero (by simp; omega))
  rw[if_neg (by omega)] at e1
  rw[if_neg (by omega),h1]
  exact⟨b,o',e1,e2,e3⟩
theorem z8U {P:Program} {E:Env} {ops:Array Oper} {o:Oper} {σ:St} {t e:TypeId} {y lo hi mx:Operand} {p pl ph pm:List Prop} {k kl kh km:IntKind} {xs:List Int} {i j m:Int} (hop:o.op= .slice t y (some lo) (some hi) (some mx)) (ht:P.underlying t=some (.slice e)) (h1:P.cellsOf e=1)
  (hy:ox σ y=(p,.c (.lf (.ints k xs)))) (hlo:ox σ lo=(pl,lv (.int kl i))) (hhi:ox σ hi=(ph,lv (.int kh j))) (hmx:ox σ mx=(pm,lv (.int km m))) (hp:z03 (p++(pl++(ph++pm)))) (hb:0≤i∧i≤j∧j≤m∧m≤(xs.length:Int)):
  z4V P E ops o σ (.c (.lf (.ints k ((xs.take j.toNat).drop i.toNat)))):=fun τ hl=>
 zfv hop ht h1 ((hl.ox y (by rw[hop]; simp[Op.operands])).trans hy) ((hl.ox lo (by rw[hop]; simp[Op.operands])).trans hlo) ((hl.ox hi (by rw[hop]; simp[Op.operands])).trans hhi) ((hl.ox mx (by rw[hop]; simp[Op.operands])).trans hmx) hp hb
def z4o {R:Type}:List (List Leaf)→(List (List Leaf)→R)→R
 | [],k=>k []
 | x::l,k=>go x fun x=>z4o l fun l=>k (x::l)
where go:List Leaf→(List Leaf→R)→R
 | [],k=>k []
 | x::l,k=>z8x x fun x=>go l fun l=>k (x::l)
theorem z5y {R:Type}:∀(l:List Leaf) (k:List Leaf→R),z4o.go l k=k l
 | [],k=>rfl
 | x::l,k=>by simp only[z4o.go,z9T,z5y l]
theorem z9L {R:Type}:∀(l:List (List Leaf)) (k:List (List Leaf)→R),z4o l k=k l
 | [],k=>rfl
 | x::l,k=>by simp only[z4o,z5y,z9L l]
def z3n {R:Type} (x:Option Leaf) (k:Leaf→Option R):Option R:=match x with
 | none=>none
 | some (.ints kd l)=>z8A l fun l=>k (.ints kd l)
 | some (.recs sz l)=>z4o l fun l=>k (.recs sz l)
 | some d=>k d
theorem z2T {x:Option Leaf} {d:Leaf} (h:z3n x some=some d):x=some d:=by
 unfold z3n at h
 split at h
 ·cases h
 ·rw[z79] at h; exact h
 ·rw[z9L] at h; exact h
 ·exact h
def z2h {R:Type} (x:Nat) (k:Nat→R):R:=match x with
 | 0=>k 0 | 1=>k 1 | 2=>k 2 | 3=>k 3 | 4=>k 4 | 5=>k 5 | 6=>k 6 | 7=>k 7 | 8=>k 8 | 9=>k 9 | 10=>k 10 | 11=>k 11 | 12=>k 12
 | n=>k n
theorem zfw {R:Type} (x:Nat) (k:Nat→R):z2h x k=k x:=by unfold z2h; split<;>rfl
theorem z1u {x s:Nat} (h:z2h x some=some s):x=s:=by rw[zfw] at h; exact Option.some.inj h
inductive Df {α:Type}:α→Prop
 | mk (z:α):Df z
theorem Df.nil {α:Type}:Df ([]:List α):= .mk _
theorem Df.dflt {α:Type} [Inhabited α]:Df (default:α):= .mk _
section
variable {P:Program} {E:Env} {ops:Array Oper} {Q:Exit→Act→World→Prop} {rest:List Oper} {o:Oper} {σ:St}
theorem al1 {t:TypeId} {dd:Option Nat} {cs:List Cell} (hk:WL P E ops Q rest (((σ.kill (nk dd 0)).seth (nk dd 0) (.cells cs)).put dd (.c (.ptr (nk dd 0) 0)))) (hop:o.op= .alloc t:=by exact rfl) (hg:o.guard=none:=by exact rfl) (hdf:z0j o.dst some=some dd:=by exact rfl) (hd:z0e E.n dd=true:=by rw[hn]; exact rfl) (hz:z2C (z68 P t) some=some cs:=by exact rfl) (hz0:z01 P t:=by first |(simp; done) | fail):WL P E ops Q (o::rest) σ:=
 z0E hop hg hdf hd hz hz0 hk
theorem st1 {t:TypeId} {x y:Operand} {px py:List Prop} {j off:Nat} {v:Av} {cs xs cs':List Cell} (hk:WL P E ops Q rest (σ.seth j (.cells cs'))) (hop:o.op= .store t x y:=by exact rfl) (hg:o.guard=none:=by exact rfl) (hdn:o.dst=none:=by exact rfl) (hx:ox σ x=(px,.c (.ptr j off)):=by exact rfl) (hy:ox σ y=(py,v):=by exact rfl)
 (hb:σ.hp j= .cells cs:=by exact rfl) (hxs:z2f v=some xs:=by exact rfl) (hu:z3G v=false:=by exact rfl) (h1:P.cellsOf t=xs.length:=by first |(simp; done) |(simp; rfl)) (h2:(P.info? t).isSome=true:=by first |(simp; done) | fail) (h3:Nat.ble (off+xs.length) cs.length=true:=by exact rfl) (hf:z2U (z6X cs off xs) some=some cs':=by exact rfl)
 (hp:z03 (px++py):=by exact vcs):WL P E ops Q (o::rest) σ:=z0m hop hg hdn hx hy hp hb hxs hu h1 h2 h3 hf hk
theorem bx1 {t:TypeId} {x:Operand} {dd:Option Nat} {ps:List Prop} {y:Av} {cs:List Cell} (hk:WL P E ops Q rest (((σ.kill (nk dd 0)).seth (nk dd 0) (.cells cs)).put dd (.c (.ptr (nk dd 0) 0)))) (hop:o.op= .box t x:=by exact rfl) (hg:o.guard=none:=by exact rfl) (hdf:z0j o.dst some=some dd:=by exact rfl) (hd:z0e E.n dd=true:=by rw[hn]; exact rfl) (hx:ox (σ.kill (nk dd 0)) x=(ps,y):=by exact rfl)
 (hcs:z2C (z2f y) some=some cs:=by exact rfl) (hu:z3G y=false:=by exact rfl) (hp:z03 ps:=by exact vcs):WL P E ops Q (o::rest) σ:=z1v hop hg hdf hd hx hp hcs hu hk
theorem ca1 {dd:Option Nat} {c:Call} {fo:Operand} {f:FuncId} {first cap:List Cell} {pf:List Prop} {xs:List Av} {res:Av} {r:Av} (hk:WL P E ops Q rest (σ.put dd r))
 (hop:o.op= .call c:=by exact rfl) (hg:o.guard=none:=by exact rfl) (hdf:z0j o.dst some=some dd:=by exact rfl) (hd:z0e E.n dd=true:=by rw[hn]; exact rfl) (hcv:c.callee= .value fo:=by exact rfl) (hfo:ox σ fo=(pf,.c (.fn (.func f) first cap)):=by exact rfl)
 (hxs:first.map Av.c++(oxs σ c.args.toList).2++cap.map Av.c=xs:=by exact rfl) (hF:Ct P f xs [] res [] []:=by assumption) (hok:(xs.all (Av.ok 0)&&res.ok 0)=true:=by exact rfl) (hr:z2v res some=some r:=by exact rfl)
 (hp:z03 (pf++(oxs σ c.args.toList).1):=by exact vcs):WL P E ops Q (o::rest) σ:=z1C hF hop hg hdf hd hcv hfo hp hxs hok hr hk
theorem cl1 (full:Bool) {qs:List Prop} {dd:Option Nat} {c:Call} {fo:Operand} {f:FuncId} {first cap:List Cell} {pf:List Prop} {xs:List Av} {res r:Av} (hk:WL P E ops Q rest (σ.put dd r))
  (hop:o.op= .call c:=by exact rfl) (hg:o.guard=none:=by exact rfl) (hdf:z0j o.dst some=some dd:=by exact rfl) (hd:z0e E.n dd=true:=by rw[hn]; exact rfl) (hcv:c.callee= .value fo:=by exact rfl) (hfo:ox σ fo=(pf,.c (.fn (.func f) first cap)):=by exact rfl)
  (hxs:z3C (z4B full σ.hp (first.map Av.c++(oxs σ c.args.toList).2++cap.map Av.c)) some=some (qs,xs):=by exact rfl) (hF:Ct P f xs [] res [] []:=by assumption) (hqs:z03 qs:=by exact vcs)
  (hok:(xs.all (Av.ok 0)&&z44 res)=true:=by exact rfl) (hr:z2v res some=some r:=by exact rfl)
  (hp:z03 (pf++(oxs σ c.args.toList).1):=by exact vcs):WL P E ops Q (o::rest) σ:=by
 simp only[z2A,Option.some.injEq] at hr
 subst hr
 simp only[z0t,Option.some.injEq] at hdf
 subst hdf
 exact z1b (z0L (z1J hF hop hcv hfo hp (z8v hxs hqs) hok) hg) hd hk
theorem cb1 {c:Call} {dd:Option Nat} {fo:Operand} {f:FuncId} {first cap:List Cell} {pf:List Prop} {xs:List Av} {bor:List Blk} {res:Av} {bor' news:List Blk} {bs:List Nat}
  (hk:WL P E ops Q rest ((z0u (σ.kills (z07 dd news.length)) bs dd bor' news).put dd (res.ren (z0B bs dd news.length))))
  (hop:o.op= .call c:=by exact rfl) (hg:o.guard=none:=by exact rfl) (hdf:z0j o.dst some=some dd:=by exact rfl) (hd:z0e E.n dd=true:=by rw[hn]; exact rfl) (hcv:c.callee= .value fo:=by exact rfl) (hf0:ox σ fo=(pf,.c (.fn (.func f) first cap)):=by exact rfl)
  (hF:Ct P f xs bor res bor' news:=by assumption) (hfo:ox (σ.kills (z07 dd news.length)) fo=(pf,.c (.fn (.func f) first cap)):=by exact rfl)
  (hbs:z5B (ziJ (σ.kills (z07 dd news.length)).hp (first.map Av.c++(oxs (σ.kills (z07 dd news.length)) c.args.toList).2++cap.map Av.c) xs bor) some=some bs:=by exact rfl)
  (h1:first.map Av.c++(oxs (σ.kills (z07 dd news.length)) c.args.toList).2++cap.map Av.c=xs.map (Av.ren (z0B bs dd news.length)):=by exact rfl)
  (h2:z03 ((z0b 0 bor).map fun p=>(σ.kills (z07 dd news.length)).hp (bs.getD p.1 0)=p.2.ren (z0B bs dd news.length)):=by first | trivial | exact rfl | exact⟨rfl,rfl⟩ | exact⟨rfl,rfl,rfl⟩ | exact⟨rfl,rfl,rfl,rfl⟩)
  (h3:z03 ((z0b 0 bor).map fun p=>p.2≠ .gone):=by first | trivial |(simp[z0b]; done) | fail)
  (h4:(xs.all (Av.ok bs.length)&&bor.all (Blk.ok bs.length)&&res.ok (bs.length+news.length)&&bor'.all (Blk.ok (bs.length+news.length))&&news.all (Blk.ok (bs.length+news.length))&&Nat.beq bs.length bor.length&&decide (bs++z07 dd news.length).Nodup)=true:=by exact rfl)
  (hp:z03 (pf++(oxs (σ.kills (z07 dd news.length)) c.args.toList).1):=by exact vcs):WL P E ops Q (o::rest) σ:=by
 simp only[z0t,Option.some.injEq] at hdf
 subst hdf
 exact z0w bs hF hop hg hd hcv hfo hp ⟨h1,h2,h3,h4⟩ hk
theorem cb2 {c:Call} {dd:Option Nat} {fo:Operand} {f:FuncId} {first cap:List Cell} {pf:List Prop} {xs:List Av} {bor:List Blk} {res:Av} {bor' news:List Blk} {bs:List Nat}
  (hk:WL P E ops Q rest ((z0u (σ.kills (z07 dd news.length)) bs dd bor' news).put dd (res.ren (z0B bs dd news.length))))
  (hop:o.op= .call c:=by exact rfl) (hg:o.guard=none:=by exact rfl) (hdf:z0j o.dst some=some dd:=by exact rfl) (hd:z0e E.n dd=true:=by rw[hn]; exact rfl) (hcv:c.callee= .value fo:=by exact rfl) (hf0:ox σ fo=(pf,.c (.fn (.func f) first cap)):=by exact rfl)
  (hcan:z3C.go (zxy (first.map Av.c++(oxs σ c.args.toList).2++cap.map Av.c)) some=some xs:=by exact rfl) (hF:Ct P f xs bor res bor' news:=by assumption) (hfo:ox (σ.kills (z07 dd news.length)) fo=(pf,.c (.fn (.func f) first cap)):=by exact rfl)
  (hbs:z5B (ziJ (σ.kills (z07 dd news.length)).hp (first.map Av.c++(oxs (σ.kills (z07 dd news.length)) c.args.toList).2++cap.map Av.c) xs bor) some=some bs:=by exact rfl)
  (h1:first.map Av.c++(oxs (σ.kills (z07 dd news.length)) c.args.toList).2++cap.map Av.c=xs.map (Av.ren (z0B bs dd news.length)):=by exact rfl)
  (h2:z03 ((z0b 0 bor).map fun p=>(σ.kills (z07 dd news.length)).hp (bs.getD p.1 0)=p.2.ren (z0B bs dd news.length)):=by first | trivial | exact rfl | exact⟨rfl,rfl⟩ | exact⟨rfl,rfl,rfl⟩ | exact⟨rfl,rfl,rfl,rfl⟩)
  (h3:z03 ((z0b 0 bor).map fun p=>p.2≠ .gone):=by first | trivial |(simp[z0b]; done) | fail)
  (h4:(xs.all (Av.ok bs.length)&&bor.all (Blk.ok bs.length)&&res.ok (bs.length+news.length)&&bor'.all (Blk.ok (bs.length+news.length))&&news.all (Blk.ok (bs.length+news.length))&&Nat.beq bs.length bor.length&&decide (bs++z07 dd news.length).Nodup)=true:=by exact rfl)
  (hp:z03 (pf++(oxs (σ.kills (z07 dd news.length)) c.args.toList).1):=by exact vcs):WL P E ops Q (o::rest) σ:=
 cb1 hk hop hg hdf hd hcv hf0 hF hfo hbs h1 h2 h3 h4 hp
theorem cg1 {i:Nat} {b G:Bool} {dd:Option Nat} {c:Call} {fo:Operand} {f:FuncId} {first cap:List Cell} {pf:List Prop} {xs:List Av} {res:Av} (hk:WL P E ops Q rest (σ.put dd (.cnd G res)))
  (hop:o.op= .call c:=by exact rfl) (hg:o.guard=some (i,b):=by exact rfl) (hG:z0V ops σ i b=some G:=by exact rfl) (hdf:z0j o.dst some=some dd:=by exact rfl) (hd:z0e E.n dd=true:=by rw[hn]; exact rfl) (hcv:c.callee= .value fo:=by exact rfl) (hfo:ox σ fo=(pf,.c (.fn (.func f) first cap)):=by exact rfl)
  (hxs:first.map Av.c++(oxs σ c.args.toList).2++cap.map Av.c=xs:=by exact rfl) (hF:Ct P f xs [] res [] []:=by assumption) (hok:(xs.all (Av.ok 0)&&res.ok 0)=true:=by exact rfl)
  (hp:G=true→z03 (pf++(oxs σ c.args.toList).1):=by intro hG; first | trivial | exact hG |(simp; done) |(simp; omega) |(simp at*; done) |(simp at*; omega)):WL P E ops Q (o::rest) σ:=by
 simp only[z0t,Option.some.injEq] at hdf
 subst hdf
 exact z1b (zgX hg hG hop hcv hfo (fun _=>hF) hp hxs hok) hd hk
theorem eq1 {dd:Option Nat} {t:TypeId} {neg:Bool} {y z:Operand} {p q:List Prop} {l m:List Cell} {ks:List (Option IntKind)} (hk:WL P E ops Q rest (σ.put dd (lv (.bool ((z2u l m)!=neg))))) (hop:z7O o.op=some (neg,t,y,z):=by exact rfl) (hg:o.guard=none:=by exact rfl) (hdf:z0j o.dst some=some dd:=by exact rfl) (hd:z0e E.n dd=true:=by rw[hn]; exact rfl)
  (hy:ox σ y=(p,.agg l):=by exact rfl) (hz:ox σ z=(q,.agg m):=by exact rfl) (hl:z1W l=some ks:=by exact rfl) (hm:z1W m=some ks:=by exact rfl) (hT:z8u P t ks=true:=by kernel_rfl) (hp:z03 (p++q):=by first | trivial |(simp; done) |(simp at*; done) | fail):WL P E ops Q (o::rest) σ:=by
 simp only[z0t,Option.some.injEq] at hdf
 subst hdf
 exact z1b (z0L (z74 (ops:=ops) hop hT hl hm hy hz hp σ .refl') hg) hd hk
theorem eg1 {i:Nat} {b G:Bool} {dd:Option Nat} {t:TypeId} {neg:Bool} {y z:Operand} {p q:List Prop} {l m:List Cell} {ks:List (Option IntKind)} (hk:WL P E ops Q rest (σ.put dd (.cnd G (lv (.bool ((z2u l m)!=neg)))))) (hop:z7O o.op=some (neg,t,y,z):=by exact rfl) (hg:o.guard=some (i,b):=by exact rfl) (hG:z0V ops σ i b=some G:=by exact rfl) (hdf:z0j o.dst some=some dd:=by exact rfl) (hd:z0e E.n dd=true:=by rw[hn]; exact rfl)
  (hy:ox σ y=(p,.agg l):=by exact rfl) (hz:ox σ z=(q,.agg m):=by exact rfl) (hl:z1W l=some ks:=by exact rfl) (hm:z1W m=some ks:=by exact rfl) (hT:z8u P t ks=true:=by kernel_rfl) (hp:G=true→z03 (p++q):=by intro hG; first | trivial | exact hG | exact⟨hG,hG⟩ |(simp; done) |(simp at*; done) | fail):WL P E ops Q (o::rest) σ:=by
 simp only[z0t,Option.some.injEq] at hdf
 subst hdf
 exact z1b (z3X hg hG fun h=>z74 (ops:=ops) hop hT hl hm hy hz (hp h) σ .refl') hd hk
theorem ck1 (full:Bool) {qs:List Prop} {i:Nat} {b G:Bool} {dd:Option Nat} {c:Call} {fo:Operand} {f:FuncId} {first cap:List Cell} {pf:List Prop} {xs:List Av} {res r:Av} (hk:WL P E ops Q rest (σ.put dd (.cnd G r)))
  (hop:o.op= .call c:=by exact rfl) (hg:o.guard=some (i,b):=by exact rfl) (hG:z0V ops σ i b=some G:=by exact rfl) (hdf:z0j o.dst some=some dd:=by exact rfl) (hd:z0e E.n dd=true:=by rw[hn]; exact rfl) (hcv:c.callee= .value fo:=by exact rfl) (hfo:ox σ fo=(pf,.c (.fn (.func f) first cap)):=by exact rfl)
  (hxs:z3C (z4B full σ.hp (first.map Av.c++(oxs σ c.args.toList).2++cap.map Av.c)) some=some (qs,xs):=by exact rfl) (hF:Ct P f xs [] res [] []:=by assumption) (hqs:z03 qs:=by exact vcs)
  (hok:(xs.all (Av.ok 0)&&z44 res)=true:=by exact rfl) (hr:z2v res some=some r:=by exact rfl)
  (hp:G=true→z03 (pf++(oxs σ c.args.toList).1):=by intro hG; first | trivial | exact hG | exact⟨hG,hG⟩ | exact⟨hG,trivial⟩ |(simp; done) |(simp; omega) |(simp at*; done) |(simp at*; omega)):WL P E ops Q (o::rest) σ:=by
 simp only[z2A,Option.some.injEq] at hr
 subst hr
 simp only[z0t,Option.some.injEq] at hdf
 subst hdf
 exact z1b (z3X hg hG fun h=>z1J hF hop hcv hfo (hp h) (z8v hxs hqs) hok) hd hk
theorem np1 {dd:Option Nat} {t e:TypeId} {neg:Bool} {y:Operand} {p:List Prop} {v:Av} (hk:WL P E ops Q rest (σ.put dd (lv (.bool neg)))) (hop:z7O o.op=some (neg,t,y,.const (.pointer none)):=by exact rfl) (hg:o.guard=none:=by exact rfl) (hdf:z0j o.dst some=some dd:=by exact rfl) (hd:z0e E.n dd=true:=by rw[hn]; exact rfl)
  (hy:ox σ y=(p,v):=by exact rfl) (hv:z3a v=true:=by exact rfl) (ht:P.underlying t=some (.pointer e):=by exact rfl) (hp:z03 p:=by first | trivial |(simp; done) |(simp at*; done) | fail):WL P E ops Q (o::rest) σ:=by
 obtain⟨t',hop⟩:=zaX hop
 simp only[z0t,Option.some.injEq] at hdf
 subst hdf
 exact z1b (z0L (z4f hop ht hy hv hp) hg) hd hk
theorem cdT {c:Operand} {x y:Code} {ps:List Prop} {b:Bool} (ht:W P E x Q σ) (hc:ox σ c=(ps,.c (.lf (.v (.bool b)))):=by exact rfl) (hb:b=true:=by first |(simp; done) |(simp; omega)) (hp:z03 ps:=by first | trivial |(simp; done) |(simp at*; done) | fail):W P E (.cond c x y) Q σ:=
 z06 hc hp (fun _=>ht) (fun h=>by rw[hb] at h; cases h)
theorem cdF {c:Operand} {x y:Code} {ps:List Prop} {b:Bool} (hf:W P E y Q σ) (hc:ox σ c=(ps,.c (.lf (.v (.bool b)))):=by exact rfl) (hb:b=false:=by first |(simp; done) |(simp; omega)) (hp:z03 ps:=by first | trivial |(simp; done) |(simp at*; done) | fail):W P E (.cond c x y) Q σ:=
 z06 hc hp (fun h=>by rw[hb] at h; cases h) (fun _=>hf)
theorem xb1 {s e1 e:TypeId} {y:Operand} {ps:List Prop} {l1:List Int} {dd:Option Nat} (hk:WL P E ops Q rest (σ.put dd (.c (.lf (.ints .u8 l1))))) (hop:o.op= .convert s e1 y:=by exact rfl) (hg:o.guard=none:=by exact rfl) (hdf:z0j o.dst some=some dd:=by exact rfl) (hd:z0e E.n dd=true:=by rw[hn]; exact rfl) (hx:ox σ y=(ps,lv (.string (strOfNums l1))):=by exact rfl)
  (hs:P.underlying s=some .string:=by exact rfl) (hds:P.underlying e1=some (.slice e):=by exact rfl) (he:P.underlying e=some (.int .u8):=by exact rfl) (hw:∀ x ∈ l1,0≤x∧x<256:=by assumption) (hl:l1.length≤9223372036854775807:=by first | omega |(simp; omega)) (hp:z03 ps:=by exact vcs):WL P E ops Q (o::rest) σ:=by
 simp only[z0t,Option.some.injEq] at hdf
 subst hdf
 exact z1b (z0L (z5b (ops:=ops) hop hs hds he hx hw hl hp σ .refl') hg) hd hk
theorem xb2 {s e1 e:TypeId} {y:Operand} {ps:List Prop} {l1:List Int} {dd:Option Nat} {i:Nat} {b G:Bool} (hk:WL P E ops Q rest (σ.put dd (.cnd G (.c (.lf (.ints .u8 l1)))))) (hop:o.op= .convert s e1 y:=by exact rfl) (hg:o.guard=some (i,b):=by exact rfl) (hG:z0V ops σ i b=some G:=by exact rfl) (hdf:z0j o.dst some=some dd:=by exact rfl) (hd:z0e E.n dd=true:=by rw[hn]; exact rfl) (hx:ox σ y=(ps,lv (.string (strOfNums l1))):=by exact rfl)
  (hs:P.underlying s=some .string:=by exact rfl) (hds:P.underlying e1=some (.slice e):=by exact rfl) (he:P.underlying e=some (.int .u8):=by exact rfl) (hw:∀ x ∈ l1,0≤x∧x<256:=by assumption) (hl:l1.length≤9223372036854775807:=by first | omega |(simp; omega)) (hp:G=true→z03 ps:=by intro hG; first | trivial | exact hG | exact⟨hG,hG⟩ |(simp; done) |(simp; omega) |(simp at*; done) |(simp at*; omega)):WL P E ops Q (o::rest) σ:=by
 simp only[z0t,Option.some.injEq] at hdf
 subst hdf
 exact z1b (z3X hg hG fun h=>z5b (ops:=ops) hop hs hds he hx hw hl (hp h) σ .refl') hd hk
theorem xs1 {s e1 e:TypeId} {y:Operand} {ps:List Prop} {l1:List Int} {dd:Option Nat} (hk:WL P E ops Q rest (σ.put dd (lv (.string (strOfNums l1))))) (hop:o.op= .convert s e1 y:=by exact rfl) (hg:o.guard=none:=by exact rfl) (hdf:z0j o.dst some=some dd:=by exact rfl) (hd:z0e E.n dd=true:=by rw[hn]; exact rfl) (hx:z1B σ (ox σ y)=some (ps,.ints .u8 l1):=by exact rfl)
  (hs:P.underlying s=some (.slice e):=by exact rfl) (he:P.underlying e=some (.int .u8):=by exact rfl) (hds:P.underlying e1=some .string:=by exact rfl) (hp:z03 ps:=by exact vcs):WL P E ops Q (o::rest) σ:=by
 simp only[z0t,Option.some.injEq] at hdf
 subst hdf
 exact z1b (z0L (z7a (ops:=ops) hop hs he hds hx hp σ .refl') hg) hd hk
theorem xs2 {s e1 e:TypeId} {y:Operand} {ps:List Prop} {l1:List Int} {dd:Option Nat} {i:Nat} {b G:Bool} (hk:WL P E ops Q rest (σ.put dd (.cnd G (lv (.string (strOfNums l1)))))) (hop:o.op= .convert s e1 y:=by exact rfl) (hg:o.guard=some (i,b):=by exact rfl) (hG:z0V ops σ i b=some G:=by exact rfl) (hdf:z0j o.dst some=some dd:=by exact rfl) (hd:z0e E.n dd=true:=by rw[hn]; exact rfl) (hx:z1B σ (ox σ y)=some (ps,.ints .u8 l1):=by exact rfl)
  (hs:P.underlying s=some (.slice e):=by exact rfl) (he:P.underlying e=some (.int .u8):=by exact rfl) (hds:P.underlying e1=some .string:=by exact rfl) (hp:G=true→z03 ps:=by intro hG; first | trivial | exact hG | exact⟨hG,hG⟩ |(simp; done) |(simp; omega) |(simp at*; done) |(simp at*; omega)):WL P E ops Q (o::rest) σ:=by
 simp only[z0t,Option.some.injEq] at hdf
 subst hdf
 exact z1b (z3X hg hG fun h=>z7a (ops:=ops) hop hs he hds hx (hp h) σ .refl') hd hk
theorem sl1 {dd:Option Nat} {t e:TypeId} {y lo hi mx:Operand} {p pl ph pm:List Prop} {k kl kh km:IntKind} {xs:List Int} {i j m:Int} (hk:WL P E ops Q rest (σ.put dd (.c (.lf (.ints k ((xs.take j.toNat).drop i.toNat)))))) (hop:o.op= .slice t y (some lo) (some hi) (some mx):=by exact rfl) (hg:o.guard=none:=by exact rfl) (hdf:z0j o.dst some=some dd:=by exact rfl) (hd:z0e E.n dd=true:=by rw[hn]; exact rfl)
  (ht:P.underlying t=some (.slice e):=by exact rfl) (h1:P.cellsOf e=1:=by first |(simp; done) | fail) (hy:ox σ y=(p,.c (.lf (.ints k xs))):=by exact rfl) (hlo:ox σ lo=(pl,lv (.int kl i)):=by exact rfl) (hhi:ox σ hi=(ph,lv (.int kh j)):=by exact rfl) (hmx:ox σ mx=(pm,lv (.int km m)):=by exact rfl)
  (hb:0≤i∧i≤j∧j≤m∧m≤(xs.length:Int):=by first |(simp; omega) | omega) (hp:z03 (p++(pl++(ph++pm))):=by first | trivial |(simp; done) |(simp at*; done) | fail):WL P E ops Q (o::rest) σ:=by
 simp only[z0t,Option.some.injEq] at hdf
 subst hdf
 exact z1b (z0L (z8U (ops:=ops) hop ht h1 hy hlo hhi hmx hp hb σ .refl') hg) hd hk
theorem li1 {t e:TypeId} {sz by_ n s:Nat} {parts:Array (Nat×Operand)} {ps:List Prop} {out:List Cell} {d:Leaf} {dd:Option Nat} (hk:WL P E ops Q rest (σ.put dd (.c (.lf d)))) (hop:o.op= .buildSlice t n parts:=by exact rfl) (hg:o.guard=none:=by exact rfl) (hdf:z0j o.dst some=some dd:=by exact rfl) (hd:z0e E.n dd=true:=by rw[hn]; exact rfl)
  (hE:Elt P t e sz by_:=by exact z0n rfl rfl rfl) (hs:z2h sz some=some s:=by exact rfl) (hf:z1A (fun i=>some (i*s,s)) (List.replicate (n*s) .un) (parts.toList.map fun(i,x)=>(i,ox σ x))=some (ps,out):=by exact rfl) (hdd:z3n (z2H P e s n out) some=some d:=by exact rfl) (hnn:n*s≤16777216∧n≤16777216∧z0f d=n∧szD d=s:=by exact⟨by decide,by decide,rfl,rfl⟩)
  (hz:z01 P e:=by first |(simp; done) | fail) (hp:z03 ps:=by exact vcs):WL P E ops Q (o::rest) σ:=by
 obtain rfl:=z1u hs
 simp only[z0t,Option.some.injEq] at hdf
 subst hdf
 exact z1b (z0L (z8q hop hE hz hf hp (z2T hdd) hnn) hg) hd hk
theorem lo1 {t e:TypeId} {sz by_ n s:Nat} {parts:Array (Nat×Operand)} {ps:List Prop} {out:List Cell} {d:Leaf} {dd:Option Nat} (hk:WL P E ops Q rest (((σ.kill (nk dd 0)).seth (nk dd 0) (.row d)).put dd (.c (.own (nk dd 0) s 0 n)))) (hop:o.op= .buildSlice t n parts:=by exact rfl) (hg:o.guard=none:=by exact rfl) (hdf:z0j o.dst some=some dd:=by exact rfl) (hd:z0e E.n dd=true:=by rw[hn]; exact rfl)
  (hE:Elt P t e sz by_:=by exact z0n rfl rfl rfl) (hs:z2h sz some=some s:=by exact rfl) (hf:z1A (fun i=>some (i*s,s)) (List.replicate (n*s) .un) (parts.toList.map fun(i,x)=>(i,ox (σ.kill (nk dd 0)) x))=some (ps,out):=by exact rfl) (hdd:z3n (z2H P e s n out) some=some d:=by exact rfl) (hnn:n*s≤16777216∧n≤16777216∧z0f d=n∧szD d=s:=by exact⟨by decide,by decide,rfl,rfl⟩)
  (hz:z01 P e:=by first |(simp; done) | fail) (hp:z03 ps:=by exact vcs):WL P E ops Q (o::rest) σ:=by
 obtain rfl:=z1u hs
 simp only[z0t,Option.some.injEq] at hdf
 subst hdf
 exact zkc hop hg hd hE hz hf hp (z2T hdd) hnn hk
theorem lo0 {t e:TypeId} {sz by_ s:Nat} {parts:Array (Nat×Operand)} {ps:List Prop} {out:List Cell} {d:Leaf} {dd:Option Nat} (hk:WL P E ops Q rest (((σ.kill (nk dd 0)).seth (nk dd 0) (.row d)).put dd (.c (.own (nk dd 0) s 0 0)))) (hop:o.op= .buildSlice t 0 parts:=by exact rfl) (hg:o.guard=none:=by exact rfl) (hdf:z0j o.dst some=some dd:=by exact rfl) (hd:z0e E.n dd=true:=by rw[hn]; exact rfl)
 (hE:Elt P t e sz by_:=by exact z0n rfl rfl rfl) (hs:z2h sz some=some s:=by exact rfl) (hf:z1A (fun i=>some (i*s,s)) (List.replicate (0*s) .un) (parts.toList.map fun(i,x)=>(i,ox (σ.kill (nk dd 0)) x))=some (ps,out):=by exact rfl) (hdd:z3n (z2H P e s 0 out) some=some d:=by exact rfl) (hnn:0*s≤16777216∧0≤16777216∧z0f d=0∧szD d=s:=by exact⟨by decide,by decide,rfl,rfl⟩)
 (hz:z01 P e:=by first |(simp; done) | fail) (hp:z03 ps:=by exact vcs):WL P E ops Q (o::rest) σ:=lo1 hk hop hg hdf hd hE hs hf hdd hnn hz hp
theorem ap1 {t e:TypeId} {by_:Nat} {c:Call} {x y:Operand} {dd:Option Nat} {px qs:List Prop} {j n:Nat} {k:IntKind} {l l2:List Int} (hk:WL P E ops Q rest (((σ.kill j).seth j (.row (.ints k (l++l2)))).put dd (.c (.own j 1 0 (l++l2).length)))) (hop:o.op= .call c:=by exact rfl) (hc:c.callee= .builtin .append:=by exact rfl) (ha:c.args.toList= [x,y]:=by exact rfl) (hty:c.argTypes.toList= [t,t]:=by exact rfl) (hg:o.guard=none:=by exact rfl)
  (hdf:z0j o.dst some=some dd:=by exact rfl) (hd:z0e E.n dd=true:=by rw[hn]; exact rfl) (hx:ox σ x=(px,.c (.own j 1 0 n)):=by exact rfl) (hb:σ.hp j= .row (.ints k l):=by exact rfl) (hj64:Nat.ble 64 j=true:=by exact rfl) (hy:z1B σ (ox σ y)=some (qs,.ints k l2):=by exact rfl)
  (hE:Elt P t e 1 by_:=by exact z0n rfl rfl rfl) (hp:z03 (px++qs):=by exact vcs) (hnl:n=l.length:=by first | rfl |(simp; done) |(simp; omega)) (hlim:l.length+l2.length≤4294967296∧by_≤4096:=by exact⟨by first |(simp; done) |(simp; omega) |(simp at*; omega),by decide⟩):WL P E ops Q (o::rest) σ:=
 z2I hop hc ha hty hg hdf hd hE hx hb hj64 hy hp hnl hlim hk
theorem ar1 {t e:TypeId} {sz by_:Nat} {c:Call} {x y:Operand} {dd:Option Nat} {px qs:List Prop} {j n:Nat} {l l2:List (List Leaf)} (hk:WL P E ops Q rest (((σ.kill j).seth j (.row (.recs sz (l++l2)))).put dd (.c (.own j sz 0 (l++l2).length)))) (hop:o.op= .call c:=by exact rfl) (hc:c.callee= .builtin .append:=by exact rfl) (ha:c.args.toList= [x,y]:=by exact rfl) (hty:c.argTypes.toList= [t,t]:=by exact rfl) (hg:o.guard=none:=by exact rfl)
  (hdf:z0j o.dst some=some dd:=by exact rfl) (hd:z0e E.n dd=true:=by rw[hn]; exact rfl) (hx:ox σ x=(px,.c (.own j sz 0 n)):=by exact rfl) (hb:σ.hp j= .row (.recs sz l):=by exact rfl) (hj64:Nat.ble 64 j=true:=by exact rfl) (hy:z1B σ (ox σ y)=some (qs,.recs sz l2):=by exact rfl)
  (hE:Elt P t e sz by_:=by exact z0n rfl rfl rfl) (hsz:Nat.beq sz 0=false:=by exact rfl) (hp:z03 (px++qs):=by first | trivial | exact Nat.succ_ne_zero _ |(simp[z03]; done) |(simp; done) |(simp; omega) |(simp at*; done) |(simp at*; omega)) (hnl:n=l.length:=by first | rfl |(simp; done) |(simp; omega)) (hlim:l.length+l2.length≤4294967296∧by_≤4096:=by exact⟨by first |(simp; done) |(simp; omega) |(simp at*; omega),by decide⟩):WL P E ops Q (o::rest) σ:=by
 simp only[z0t,Option.some.injEq] at hdf
 subst hdf
 subst hnl
 refine zcC (d':= .recs sz (l++l2)) hop hc ha hty hg hd hE hx hb hj64 hy hp (by simp[z0Q,z40]) ⟨rfl,by rintro rfl; simp at hsz,by simp[z0f]⟩ (by simpa[z0f] using hlim) ?_
 rw[List.length_append] at hk
 exact hk
theorem lm1 {α:Type} {dd:Option Nat} {t:TypeId} {y:Operand} {p:List Prop} {j off:Nat} {f:α→List Leaf} {h:α→Leaf} {rs:List α} {z0:α} (hk:WL P E ops Q rest (σ.put dd (.c (.lf (h (rs.getD off z0)))))) (hop:o.op= .load t y:=by exact rfl) (hg:o.guard=none:=by exact rfl) (hdf:z0j o.dst some=some dd:=by exact rfl) (hd:z0e E.n dd=true:=by rw[hn]; exact rfl) (ht:z2w P t=false:=by exact rfl) (ht2:(P.underlying t).isSome=true:=by exact rfl) (hy:ox σ y=(p,.c (.ptr j off)):=by exact rfl) (hb:σ.hp j= .row (.recs 1 (rs.map f)):=by exact rfl) (hf:∀ a,f a= [h a]:=by exact fun _=>rfl) (hp:z03 p:=by exact vcs) (hlt:off<rs.length:=by first | omega |(simp; done) |(simp; omega) |(simp at*; omega)) (hz0:Df z0:=by first | exact Df.nil | exact Df.dflt):WL P E ops Q (o::rest) σ:=by
 simp only[z0t,Option.some.injEq] at hdf
 subst hdf
 exact z1b (z0L (z5q (f:=f) (h:=h) (rs:=rs) (z:=z0) hop ht ht2 hy hb hf hp hlt) hg) hd hk
theorem lm2 {α:Type} {dd:Option Nat} {t:TypeId} {y:Operand} {p:List Prop} {j off:Nat} {f:α→List Leaf} {h:α→Leaf} {rs:List α} {z0:α} {gi:Nat} {gb G:Bool} (hk:WL P E ops Q rest (σ.put dd (.cnd G (.c (.lf (h (rs.getD off z0))))))) (hop:o.op= .load t y:=by exact rfl) (hg:o.guard=some (gi,gb):=by exact rfl) (hG:z0V ops σ gi gb=some G:=by exact rfl) (hdf:z0j o.dst some=some dd:=by exact rfl) (hd:z0e E.n dd=true:=by rw[hn]; exact rfl) (ht:z2w P t=false:=by exact rfl) (ht2:(P.underlying t).isSome=true:=by exact rfl) (hy:ox σ y=(p,.c (.ptr j off)):=by exact rfl) (hb:σ.hp j= .row (.recs 1 (rs.map f)):=by exact rfl) (hf:∀ a,f a= [h a]:=by exact fun _=>rfl) (hp:G=true→z03 p:=by intro hG; first | trivial | exact hG | exact⟨hG,hG⟩ |(simp; done) |(simp; omega) |(simp at*; done) |(simp at*; omega)) (hlt:G=true→off<rs.length:=by intro hG; first | omega |(simp; done) |(simp; omega) |(simp at hG; done) |(simp at hG; omega) |(simp at*; omega)) (hz0:Df z0:=by first | exact Df.nil | exact Df.dflt):WL P E ops Q (o::rest) σ:=by
 simp only[z0t,Option.some.injEq] at hdf
 subst hdf
 exact z1b (z3X hg hG fun hh=>z5q (f:=f) (h:=h) (rs:=rs) (z:=z0) hop ht ht2 hy hb hf (hp hh) (hlt hh)) hd hk
theorem im1 {α:Type} {dd:Option Nat} {t e:TypeId} {y z:Operand} {p q:List Prop} {sz:Nat} {f:α→List Leaf} {rs:List α} {z0:α} {ki:IntKind} {iz:Int} (hk:WL P E ops Q rest (σ.put dd (.c (.lf (.obj (f (rs.getD iz.toNat z0))))))) (hop:o.op= .indexAddr t y z:=by exact rfl) (hg:o.guard=none:=by exact rfl) (hdf:z0j o.dst some=some dd:=by exact rfl) (hd:z0e E.n dd=true:=by rw[hn]; exact rfl) (ht:P.underlying t=some (.slice e):=by exact rfl) (hy:ox σ y=(p,.c (.lf (.recs sz (rs.map f)))):=by exact rfl) (hz:ox σ z=(q,lv (.int ki iz)):=by exact rfl) (hc:P.cellsOf e=sz:=by first |(simp; done) | fail) (hsz:Nat.beq sz 0=false:=by exact rfl) (hp:z03 (p++q):=by exact vcs) (hi:(0≤iz∧iz<(rs.length:Int)):=by first | omega |(simp; done) |(simp; omega) |(simp at*; omega)) (hz0:Df z0:=by first | exact Df.nil | exact Df.dflt):WL P E ops Q (o::rest) σ:=by
 simp only[z0t,Option.some.injEq] at hdf
 subst hdf
 exact z1b (z0L (z4K (f:=f) (rs:=rs) (b:=z0) hop ht hc (by rintro rfl; simp at hsz) hy hz hp hi) hg) hd hk
theorem im2 {α:Type} {dd:Option Nat} {t e:TypeId} {y z:Operand} {p q:List Prop} {sz:Nat} {f:α→List Leaf} {rs:List α} {z0:α} {ki:IntKind} {iz:Int} {gi:Nat} {gb G:Bool} (hk:WL P E ops Q rest (σ.put dd (.cnd G (.c (.lf (.obj (f (rs.getD iz.toNat z0)))))))) (hop:o.op= .indexAddr t y z:=by exact rfl) (hg:o.guard=some (gi,gb):=by exact rfl) (hG:z0V ops σ gi gb=some G:=by exact rfl) (hdf:z0j o.dst some=some dd:=by exact rfl) (hd:z0e E.n dd=true:=by rw[hn]; exact rfl) (ht:P.underlying t=some (.slice e):=by exact rfl) (hy:ox σ y=(p,.c (.lf (.recs sz (rs.map f)))):=by exact rfl) (hz:ox σ z=(q,lv (.int ki iz)):=by exact rfl) (hc:P.cellsOf e=sz:=by first |(simp; done) | fail) (hsz:Nat.beq sz 0=false:=by exact rfl) (hp:G=true→z03 (p++q):=by intro hG; first | trivial | exact hG | exact⟨hG,hG⟩ |(simp; done) |(simp; omega) |(simp at*; done) |(simp at*; omega)) (hi:G=true→(0≤iz∧iz<(rs.length:Int)):=by intro hG; first | omega |(simp; done) |(simp; omega) |(simp at hG; done) |(simp at hG; omega) |(simp at*; omega)) (hz0:Df z0:=by first | exact Df.nil | exact Df.dflt):WL P E ops Q (o::rest) σ:=by
 simp only[z0t,Option.some.injEq] at hdf
 subst hdf
 exact z1b (z3X hg hG fun hh=>z4K (f:=f) (rs:=rs) (b:=z0) hop ht hc (by rintro rfl; simp at hsz) hy hz (hp hh) (hi hh)) hd hk
theorem sm1 {α:Type} {t:TypeId} {x y:Operand} {px py:List Prop} {j off:Nat} {f:α→List Leaf} {h:α→Leaf} {rs:List α} {c:α} (hk:WL P E ops Q rest (σ.seth j (.row (.recs 1 ((rs.set off c).map f))))) (hop:o.op= .store t x y:=by exact rfl) (hg:o.guard=none:=by exact rfl) (hdn:o.dst=none:=by exact rfl) (hx:ox σ x=(px,.c (.ptr j off)):=by exact rfl) (hb:σ.hp j= .row (.recs 1 (rs.map f)):=by exact rfl) (hf:∀ a,f a= [h a]:=by exact fun _=>rfl)
 (hy:ox σ y=(py,.c (.lf (h c))):=by exact rfl) (hsz:P.cellsOf t=1:=by first |(simp; done) | fail) (hp:z03 (px++py):=by exact vcs) (hlt:off<rs.length:=by first | omega |(simp; done) |(simp; omega) |(simp at*; omega)):WL P E ops Q (o::rest) σ:=zaj hg _ (za3 (h:=h) hop hdn hx hy hp hb hf hsz hlt).k hk
theorem an1 {t e:TypeId} {sz by_ s:Nat} {c:Call} {x y:Operand} {dd:Option Nat} {px qs:List Prop} {d:Leaf} (hk:WL P E ops Q rest (σ.put dd (.c (.lf d)))) (hop:o.op= .call c:=by exact rfl) (hc:c.callee= .builtin .append:=by exact rfl) (ha:c.args.toList= [x,y]:=by exact rfl) (hty:c.argTypes.toList= [t,t]:=by exact rfl) (hg:o.guard=none:=by exact rfl)
  (hdf:z0j o.dst some=some dd:=by exact rfl) (hd:z0e E.n dd=true:=by rw[hn]; exact rfl) (hx:ox σ x=(px,lv (.slice none 0 0)):=by exact rfl) (hy:z1B σ (ox σ y)=some (qs,d):=by exact rfl)
  (hE:Elt P t e sz by_:=by exact z0n rfl rfl rfl) (hs:z2h sz some=some s:=by exact rfl) (h1:szD d=s:=by exact rfl) (h2:Nat.beq s 0=false:=by exact rfl) (h3:0<z0f d:=by first |(simp[z0f]; done) |(simp[z0f]; omega)) (hp:z03 (px++qs):=by first | trivial | exact Nat.succ_ne_zero _ |(simp[z03]; done) |(simp; done) |(simp; omega) |(simp at*; done) |(simp at*; omega)) (hlim:z0f d≤4294967296∧by_≤4096:=by exact⟨by first |(simp[z0f]; done) |(simp[z0f]; omega),by decide⟩):WL P E ops Q (o::rest) σ:=by
 obtain rfl:=z1u hs
 simp only[z0t,Option.some.injEq] at hdf
 subst hdf
 exact z1b (z0L (zd3 hop hc ha hty hE hx hy hp ⟨h1,by rintro h0; rw[h0] at h2; simp at h2,h3⟩ hlim) hg) hd hk
theorem ig1 {dd:Option Nat} {t e:TypeId} {y z:Operand} {p q:List Prop} {sz:Nat} {rs:List (List Leaf)} {r:List Leaf} {ki:IntKind} {iz:Int} (hk:WL P E ops Q rest (σ.put dd (.c (.lf (.obj r))))) (hop:o.op= .indexAddr t y z:=by exact rfl) (hg:o.guard=none:=by exact rfl) (hdf:z0j o.dst some=some dd:=by exact rfl) (hd:z0e E.n dd=true:=by rw[hn]; exact rfl) (ht:P.underlying t=some (.slice e):=by exact rfl) (hy:ox σ y=(p,.c (.lf (.recs sz rs))):=by exact rfl) (hz:ox σ z=(q,lv (.int ki iz)):=by exact rfl) (hr:z4o.go (rs.getD iz.toNat []) some=some r:=by exact rfl) (hc:P.cellsOf e=sz:=by first |(simp; done) | fail) (hsz:Nat.beq sz 0=false:=by exact rfl) (hp:z03 (p++q):=by exact vcs) (hi:0≤iz∧iz<(rs.length:Int):=by first | omega |(simp; done) |(simp; omega) |(simp at*; omega)):WL P E ops Q (o::rest) σ:=by
 have hr:rs.getD iz.toNat []=r:=by rw[z5y] at hr; exact Option.some.inj hr
 subst hr
 simp only[z0t,Option.some.injEq] at hdf
 subst hdf
 exact z1b (z0L (z4y hop ht hc (by rintro rfl; simp at hsz) hy hz hp hi.1 hi.2) hg) hd hk
variable {ns b own:List Nat} {bs:List (List Nat×List Nat)} {l:List Oper} {K:St→Prop}
theorem zp9 {d d':Option Nat} {ps:List Prop} {x:Av} (hk:z0a P E ops ns bs l (σ.put d x) K) (hg:o.guard=none:=by exact rfl) (hd:z0j o.dst some=some d:=by exact rfl) (h:z4D o.dst (z1M true P ⟨σ.tm,fgt b σ.hp⟩ o)=some (d',ps,x):=by exact rfl) (hE:z0e E.n d=true:=by rw[hn]; exact rfl)
 (hp:z03 ps:=by exact vcs):z0a P E ops ns ((b,own)::bs) (o::l) σ K:=z20 hd hE (zcE true hg h hp) hk
theorem zpa {i:Nat} {g G:Bool} {d d':Option Nat} {ps:List Prop} {x:Av} (hk:z0a P E ops ns bs l (σ.put d (.cnd G x)) K) (hg:o.guard=some (i,g):=by exact rfl) (hG:z0V ops ⟨σ.tm,fgt b σ.hp⟩ i g=some G:=by exact rfl) (hd:z0j o.dst some=some d:=by exact rfl) (h:z4D o.dst (z1M true P ⟨σ.tm,fgt b σ.hp⟩ o)=some (d',ps,x):=by exact rfl) (hE:z0e E.n d=true:=by rw[hn]; exact rfl)
 (hp:G=true→z03 ps:=by intro hG; first | trivial |(simp; done) |(simp; omega) |(simp at*; done) |(simp at*; omega)):z0a P E ops ns ((b,own)::bs) (o::l) σ K:=z20 hd hE (zb9 true hg hG h hp) hk
theorem zpb {t:TypeId} {d:Nat} {cs:List Cell} (hk:z0a P E ops ns bs l ((σ.seth (nk (some d) 0) (.cells cs)).put (some d) (.c (.ptr (nk (some d) 0) 0))) K) (hop:o.op= .alloc t:=by exact rfl) (hg:o.guard=none:=by exact rfl) (hd:o.dst=some d:=by exact rfl) (hE:z0e E.n (some d)=true:=by rw[hn]; exact rfl) (hz:z2C (z68 P t) some=some cs:=by exact rfl)
 (hgone:σ.hp (nk (some d) 0)= .gone:=by exact rfl) (hb:z0c (nk (some d) 0) b=false:=by exact rfl) (hns:z0c (nk (some d) 0) ns=true:=by exact rfl) (ho:z0c (nk (some d) 0) own=true:=by exact rfl) (hz0:z01 P t:=by first |(simp; done) | fail):z0a P E ops ns ((b,own)::bs) (o::l) σ K:=zrC hop hg hd hE hz hz0 hgone hb hns ho hk
theorem zpc {t:TypeId} {x y:Operand} {px py:List Prop} {j off:Nat} {v:Av} {cs xs cs':List Cell} (hk:z0a P E ops ns bs l (σ.seth j (.cells cs')) K) (hop:o.op= .store t x y:=by exact rfl) (hg:o.guard=none:=by exact rfl) (hdn:o.dst=none:=by exact rfl) (hx:ox σ x=(px,.c (.ptr j off)):=by exact rfl) (hy:ox σ y=(py,v):=by exact rfl)
 (hc:σ.hp j= .cells cs:=by exact rfl) (hxs:z2f v=some xs:=by exact rfl) (hu:z3G v=false:=by exact rfl) (h1:P.cellsOf t=xs.length:=by first |(simp; done) |(simp; rfl)) (h2:(P.info? t).isSome=true:=by first |(simp; done) | fail) (h3:Nat.ble (off+xs.length) cs.length=true:=by exact rfl) (hf:z2U (z6X cs off xs) some=some cs':=by exact rfl) (hb:z0c j b=false:=by exact rfl) (ho:z0c j own=true:=by exact rfl)
 (hp:z03 (px++py):=by exact vcs):z0a P E ops ns ((b,own)::bs) (o::l) σ K:=zrD hop hg hdn hx hy hp hc hxs hu h1 h2 h3 hf hb ho hk
theorem zpd {d:Option Nat} {c:Call} {fo:Operand} {f:FuncId} {first cap:List Cell} {pf:List Prop} {xs:List Av} {res r:Av} (hk:z0a P E ops ns bs l (σ.put d r) K) (hop:o.op= .call c:=by exact rfl) (hg:o.guard=none:=by exact rfl) (hd:z0j o.dst some=some d:=by exact rfl) (hE:z0e E.n d=true:=by rw[hn]; exact rfl)
 (hcv:c.callee= .value fo:=by exact rfl) (hfo:ox ⟨σ.tm,fgt b σ.hp⟩ fo=(pf,.c (.fn (.func f) first cap)):=by exact rfl) (hxs:first.map Av.c++(oxs ⟨σ.tm,fgt b σ.hp⟩ c.args.toList).2++cap.map Av.c=xs:=by exact rfl)
 (hF:Ct P f xs [] res [] []:=by assumption) (hok:(xs.all (Av.ok 0)&&res.ok 0)=true:=by exact rfl) (hr:z2v res some=some r:=by exact rfl)
 (hp:z03 (pf++(oxs ⟨σ.tm,fgt b σ.hp⟩ c.args.toList).1):=by exact vcs):z0a P E ops ns ((b,own)::bs) (o::l) σ K:=z20 hd hE (z1N (z6i hF hop hcv hfo hp hxs hok hr) hg) hk
theorem z7P {i:Nat} {g G:Bool} {d:Option Nat} {c:Call} {fo:Operand} {f:FuncId} {first cap:List Cell} {pf:List Prop} {xs:List Av} {res r:Av} (hk:z0a P E ops ns bs l (σ.put d (.cnd G r)) K) (hop:o.op= .call c:=by exact rfl) (hg:o.guard=some (i,g):=by exact rfl) (hG:z0V ops ⟨σ.tm,fgt b σ.hp⟩ i g=some G:=by exact rfl) (hd:z0j o.dst some=some d:=by exact rfl) (hE:z0e E.n d=true:=by rw[hn]; exact rfl)
 (hcv:c.callee= .value fo:=by exact rfl) (hfo:ox ⟨σ.tm,fgt b σ.hp⟩ fo=(pf,.c (.fn (.func f) first cap)):=by exact rfl) (hxs:first.map Av.c++(oxs ⟨σ.tm,fgt b σ.hp⟩ c.args.toList).2++cap.map Av.c=xs:=by exact rfl)
 (hF:Ct P f xs [] res [] []:=by assumption) (hok:(xs.all (Av.ok 0)&&res.ok 0)=true:=by exact rfl) (hr:z2v res some=some r:=by exact rfl)
 (hp:G=true→z03 (pf++(oxs ⟨σ.tm,fgt b σ.hp⟩ c.args.toList).1):=by intro hG; first | trivial | exact hG | exact⟨hG,hG⟩ | exact⟨hG,trivial⟩ |(simp; done) |(simp; omega) |(simp at*; done) |(simp at*; omega)):z0a P E ops ns ((b,own)::bs) (o::l) σ K:=z20 hd hE (z3E hg hG fun h=>z6i hF hop hcv hfo (hp h) hxs hok hr) hk
theorem zfx (full:Bool) {qs:List Prop} {d:Option Nat} {c:Call} {fo:Operand} {f:FuncId} {first cap:List Cell} {pf:List Prop} {xs:List Av} {res r:Av} (hk:z0a P E ops ns bs l (σ.put d r) K) (hop:o.op= .call c:=by exact rfl) (hg:o.guard=none:=by exact rfl) (hd:z0j o.dst some=some d:=by exact rfl) (hE:z0e E.n d=true:=by rw[hn]; exact rfl)
  (hcv:c.callee= .value fo:=by exact rfl) (hfo:ox ⟨σ.tm,fgt b σ.hp⟩ fo=(pf,.c (.fn (.func f) first cap)):=by exact rfl)
  (hxs:z3C (z4B full (fgt b σ.hp) (first.map Av.c++(oxs ⟨σ.tm,fgt b σ.hp⟩ c.args.toList).2++cap.map Av.c)) some=some (qs,xs):=by exact rfl) (hF:Ct P f xs [] res [] []:=by assumption) (hqs:z03 qs:=by exact vcs)
  (hok:(xs.all (Av.ok 0)&&z44 res)=true:=by exact rfl) (hr:z2v res some=some r:=by exact rfl)
  (hp:z03 (pf++(oxs ⟨σ.tm,fgt b σ.hp⟩ c.args.toList).1):=by exact vcs):z0a P E ops ns ((b,own)::bs) (o::l) σ K:=by
 simp only[z2A,Option.some.injEq] at hr
 subst hr
 exact z20 hd hE (z1N (za4 hF hop hcv hfo hp (z8v hxs hqs) hok) hg) hk
theorem zpe {d:Option Nat} {t:TypeId} {neg:Bool} {y z:Operand} {p q:List Prop} {l1 m:List Cell} {ks:List (Option IntKind)} (hk:z0a P E ops ns bs l (σ.put d (lv (.bool ((z2u l1 m)!=neg)))) K) (hop:z7O o.op=some (neg,t,y,z):=by exact rfl) (hg:o.guard=none:=by exact rfl) (hd:z0j o.dst some=some d:=by exact rfl) (hE:z0e E.n d=true:=by rw[hn]; exact rfl)
  (hy:ox ⟨σ.tm,fgt b σ.hp⟩ y=(p,.agg l1):=by exact rfl) (hz:ox ⟨σ.tm,fgt b σ.hp⟩ z=(q,.agg m):=by exact rfl) (hl:z1W l1=some ks:=by exact rfl) (hm:z1W m=some ks:=by exact rfl) (hT:z8u P t ks=true:=by kernel_rfl) (hp:z03 (p++q):=by first | trivial |(simp; done) |(simp at*; done) | fail):z0a P E ops ns ((b,own)::bs) (o::l) σ K:=
 z20 hd hE (z1N (z74 hop hT hl hm hy hz hp) hg) hk
theorem zpf {i:Nat} {g G:Bool} {d:Option Nat} {t:TypeId} {neg:Bool} {y z:Operand} {p q:List Prop} {l1 m:List Cell} {ks:List (Option IntKind)} (hk:z0a P E ops ns bs l (σ.put d (.cnd G (lv (.bool ((z2u l1 m)!=neg))))) K) (hop:z7O o.op=some (neg,t,y,z):=by exact rfl) (hg:o.guard=some (i,g):=by exact rfl) (hG:z0V ops ⟨σ.tm,fgt b σ.hp⟩ i g=some G:=by exact rfl) (hd:z0j o.dst some=some d:=by exact rfl) (hE:z0e E.n d=true:=by rw[hn]; exact rfl)
  (hy:ox ⟨σ.tm,fgt b σ.hp⟩ y=(p,.agg l1):=by exact rfl) (hz:ox ⟨σ.tm,fgt b σ.hp⟩ z=(q,.agg m):=by exact rfl) (hl:z1W l1=some ks:=by exact rfl) (hm:z1W m=some ks:=by exact rfl) (hT:z8u P t ks=true:=by kernel_rfl) (hp:G=true→z03 (p++q):=by intro hG; first | trivial | exact hG | exact⟨hG,hG⟩ |(simp; done) |(simp at*; done) | fail):z0a P E ops ns ((b,own)::bs) (o::l) σ K:=
 z20 hd hE (z3E hg hG fun h=>z74 hop hT hl hm hy hz (hp h)) hk
theorem zfy (full:Bool) {qs:List Prop} {i:Nat} {g G:Bool} {d:Option Nat} {c:Call} {fo:Operand} {f:FuncId} {first cap:List Cell} {pf:List Prop} {xs:List Av} {res r:Av} (hk:z0a P E ops ns bs l (σ.put d (.cnd G r)) K) (hop:o.op= .call c:=by exact rfl) (hg:o.guard=some (i,g):=by exact rfl) (hG:z0V ops ⟨σ.tm,fgt b σ.hp⟩ i g=some G:=by exact rfl) (hd:z0j o.dst some=some d:=by exact rfl) (hE:z0e E.n d=true:=by rw[hn]; exact rfl)
  (hcv:c.callee= .value fo:=by exact rfl) (hfo:ox ⟨σ.tm,fgt b σ.hp⟩ fo=(pf,.c (.fn (.func f) first cap)):=by exact rfl)
  (hxs:z3C (z4B full (fgt b σ.hp) (first.map Av.c++(oxs ⟨σ.tm,fgt b σ.hp⟩ c.args.toList).2++cap.map Av.c)) some=some (qs,xs):=by exact rfl) (hF:Ct P f xs [] res [] []:=by assumption) (hqs:z03 qs:=by exact vcs)
  (hok:(xs.all (Av.ok 0)&&z44 res)=true:=by exact rfl) (hr:z2v res some=some r:=by exact rfl)
  (hp:G=true→z03 (pf++(oxs ⟨σ.tm,fgt b σ.hp⟩ c.args.toList).1):=by intro hG; first | trivial | exact hG | exact⟨hG,hG⟩ | exact⟨hG,trivial⟩ |(simp; done) |(simp; omega) |(simp at*; done) |(simp at*; omega)):z0a P E ops ns ((b,own)::bs) (o::l) σ K:=by
 simp only[z2A,Option.some.injEq] at hr
 subst hr
 exact z20 hd hE (z3E hg hG fun h=>za4 hF hop hcv hfo (hp h) (z8v hxs hqs) hok) hk
theorem zpg {s e1 e:TypeId} {y:Operand} {ps:List Prop} {l1:List Int} {d:Option Nat} (hk:z0a P E ops ns bs l (σ.put d (.c (.lf (.ints .u8 l1)))) K) (hop:o.op= .convert s e1 y:=by exact rfl) (hg:o.guard=none:=by exact rfl) (hd:z0j o.dst some=some d:=by exact rfl) (hE:z0e E.n d=true:=by rw[hn]; exact rfl) (hx:ox ⟨σ.tm,fgt b σ.hp⟩ y=(ps,lv (.string (strOfNums l1))):=by exact rfl)
 (hs:P.underlying s=some .string:=by exact rfl) (hds:P.underlying e1=some (.slice e):=by exact rfl) (he:P.underlying e=some (.int .u8):=by exact rfl) (hw:∀ x ∈ l1,0≤x∧x<256:=by assumption) (hl:l1.length≤9223372036854775807:=by first | omega |(simp; omega)) (hp:z03 ps:=by exact vcs):z0a P E ops ns ((b,own)::bs) (o::l) σ K:=z20 hd hE (z1N (z5b hop hs hds he hx hw hl hp) hg) hk
theorem zph {s e1 e:TypeId} {y:Operand} {ps:List Prop} {l1:List Int} {d:Option Nat} {i:Nat} {g G:Bool} (hk:z0a P E ops ns bs l (σ.put d (.cnd G (.c (.lf (.ints .u8 l1))))) K) (hop:o.op= .convert s e1 y:=by exact rfl) (hg:o.guard=some (i,g):=by exact rfl) (hG:z0V ops ⟨σ.tm,fgt b σ.hp⟩ i g=some G:=by exact rfl) (hd:z0j o.dst some=some d:=by exact rfl) (hE:z0e E.n d=true:=by rw[hn]; exact rfl) (hx:ox ⟨σ.tm,fgt b σ.hp⟩ y=(ps,lv (.string (strOfNums l1))):=by exact rfl)
 (hs:P.underlying s=some .string:=by exact rfl) (hds:P.underlying e1=some (.slice e):=by exact rfl) (he:P.underlying e=some (.int .u8):=by exact rfl) (hw:∀ x ∈ l1,0≤x∧x<256:=by assumption) (hl:l1.length≤9223372036854775807:=by first | omega |(simp; omega)) (hp:G=true→z03 ps:=by intro hG; first | trivial | exact hG | exact⟨hG,hG⟩ |(simp; done) |(simp; omega) |(simp at*; done) |(simp at*; omega)):z0a P E ops ns ((b,own)::bs) (o::l) σ K:=z20 hd hE (z3E hg hG fun h=>z5b hop hs hds he hx hw hl (hp h)) hk
theorem zpi {s e1 e:TypeId} {y:Operand} {ps:List Prop} {l1:List Int} {d:Option Nat} (hk:z0a P E ops ns bs l (σ.put d (lv (.string (strOfNums l1)))) K) (hop:o.op= .convert s e1 y:=by exact rfl) (hg:o.guard=none:=by exact rfl) (hd:z0j o.dst some=some d:=by exact rfl) (hE:z0e E.n d=true:=by rw[hn]; exact rfl) (hx:z1B ⟨σ.tm,fgt b σ.hp⟩ (ox ⟨σ.tm,fgt b σ.hp⟩ y)=some (ps,.ints .u8 l1):=by exact rfl)
 (hs:P.underlying s=some (.slice e):=by exact rfl) (he:P.underlying e=some (.int .u8):=by exact rfl) (hds:P.underlying e1=some .string:=by exact rfl) (hp:z03 ps:=by exact vcs):z0a P E ops ns ((b,own)::bs) (o::l) σ K:=z20 hd hE (z1N (z7a hop hs he hds hx hp) hg) hk
theorem zpj {s e1 e:TypeId} {y:Operand} {ps:List Prop} {l1:List Int} {d:Option Nat} {i:Nat} {g G:Bool} (hk:z0a P E ops ns bs l (σ.put d (.cnd G (lv (.string (strOfNums l1))))) K) (hop:o.op= .convert s e1 y:=by exact rfl) (hg:o.guard=some (i,g):=by exact rfl) (hG:z0V ops ⟨σ.tm,fgt b σ.hp⟩ i g=some G:=by exact rfl) (hd:z0j o.dst some=some d:=by exact rfl) (hE:z0e E.n d=true:=by rw[hn]; exact rfl) (hx:z1B ⟨σ.tm,fgt b σ.hp⟩ (ox ⟨σ.tm,fgt b σ.hp⟩ y)=some (ps,.ints .u8 l1):=by exact rfl)
 (hs:P.underlying s=some (.slice e):=by exact rfl) (he:P.underlying e=some (.int .u8):=by exact rfl) (hds:P.underlying e1=some .string:=by exact rfl) (hp:G=true→z03 ps:=by intro hG; first | trivial | exact hG | exact⟨hG,hG⟩ |(simp; done) |(simp; omega) |(simp at*; done) |(simp at*; omega)):z0a P E ops ns ((b,own)::bs) (o::l) σ K:=z20 hd hE (z3E hg hG fun h=>z7a hop hs he hds hx (hp h)) hk
theorem zpk {dd:Option Nat} {t e:TypeId} {y lo hi mx:Operand} {p pl ph pm:List Prop} {k kl kh km:IntKind} {xs:List Int} {i j m:Int} (hk:z0a P E ops ns bs l (σ.put dd (.c (.lf (.ints k ((xs.take j.toNat).drop i.toNat))))) K) (hop:o.op= .slice t y (some lo) (some hi) (some mx):=by exact rfl) (hg:o.guard=none:=by exact rfl) (hdf:z0j o.dst some=some dd:=by exact rfl) (hd:z0e E.n dd=true:=by rw[hn]; exact rfl)
 (ht:P.underlying t=some (.slice e):=by exact rfl) (h1:P.cellsOf e=1:=by first |(simp; done) | fail) (hy:ox ⟨σ.tm,fgt b σ.hp⟩ y=(p,.c (.lf (.ints k xs))):=by exact rfl) (hlo:ox ⟨σ.tm,fgt b σ.hp⟩ lo=(pl,lv (.int kl i)):=by exact rfl) (hhi:ox ⟨σ.tm,fgt b σ.hp⟩ hi=(ph,lv (.int kh j)):=by exact rfl) (hmx:ox ⟨σ.tm,fgt b σ.hp⟩ mx=(pm,lv (.int km m)):=by exact rfl)
 (hb:0≤i∧i≤j∧j≤m∧m≤(xs.length:Int):=by first |(simp; omega) | omega) (hp:z03 (p++(pl++(ph++pm))):=by first | trivial |(simp; done) |(simp at*; done) | fail):z0a P E ops ns ((b,own)::bs) (o::l) σ K:=z20 hdf hd (z1N (z8U hop ht h1 hy hlo hhi hmx hp hb) hg) hk
theorem zpl {α:Type} {dd:Option Nat} {t:TypeId} {y:Operand} {p:List Prop} {j off:Nat} {f:α→List Leaf} {h:α→Leaf} {rs:List α} {z0:α} (hk:z0a P E ops ns bs l (σ.put dd (.c (.lf (h (rs.getD off z0))))) K) (hop:o.op= .load t y:=by exact rfl) (hg:o.guard=none:=by exact rfl) (hdf:z0j o.dst some=some dd:=by exact rfl) (hd:z0e E.n dd=true:=by rw[hn]; exact rfl) (ht:z2w P t=false:=by exact rfl) (ht2:(P.underlying t).isSome=true:=by exact rfl) (hy:ox ⟨σ.tm,fgt b σ.hp⟩ y=(p,.c (.ptr j off)):=by exact rfl) (hb:(fgt b σ.hp) j= .row (.recs 1 (rs.map f)):=by exact rfl) (hf:∀ a,f a= [h a]:=by exact fun _=>rfl) (hp:z03 p:=by exact vcs) (hlt:off<rs.length:=by first | omega |(simp; done) |(simp; omega) |(simp at*; omega)) (hz0:Df z0:=by first | exact Df.nil | exact Df.dflt):z0a P E ops ns ((b,own)::bs) (o::l) σ K:=z20 hdf hd (z1N (fun τ hl=>z5q (f:=f) (h:=h) (rs:=rs) (z:=z0) hop ht ht2 ((hl.ox y (by rw[hop]; simp[Op.operands])).trans hy) ((congrFun hl.hp j).trans hb) hf hp hlt) hg) hk
theorem zpm {α:Type} {dd:Option Nat} {t:TypeId} {y:Operand} {p:List Prop} {j off:Nat} {f:α→List Leaf} {h:α→Leaf} {rs:List α} {z0:α} {gi:Nat} {gb G:Bool} (hk:z0a P E ops ns bs l (σ.put dd (.cnd G (.c (.lf (h (rs.getD off z0)))))) K) (hop:o.op= .load t y:=by exact rfl) (hg:o.guard=some (gi,gb):=by exact rfl) (hG:z0V ops ⟨σ.tm,fgt b σ.hp⟩ gi gb=some G:=by exact rfl) (hdf:z0j o.dst some=some dd:=by exact rfl) (hd:z0e E.n dd=true:=by rw[hn]; exact rfl) (ht:z2w P t=false:=by exact rfl) (ht2:(P.underlying t).isSome=true:=by exact rfl) (hy:ox ⟨σ.tm,fgt b σ.hp⟩ y=(p,.c (.ptr j off)):=by exact rfl) (hb:(fgt b σ.hp) j= .row (.recs 1 (rs.map f)):=by exact rfl) (hf:∀ a,f a= [h a]:=by exact fun _=>rfl) (hp:G=true→z03 p:=by intro hG; first | trivial | exact hG | exact⟨hG,hG⟩ |(simp; done) |(simp; omega) |(simp at*; done) |(simp at*; omega)) (hlt:G=true→off<rs.length:=by intro hG; first | omega |(simp; done) |(simp; omega) |(simp at hG; done) |(simp at hG; omega) |(simp at*; omega)) (hz0:Df z0:=by first | exact Df.nil | exact Df.dflt):z0a P E ops ns ((b,own)::bs) (o::l) σ K:=z20 hdf hd (z3E hg hG fun hh τ hl=>z5q (f:=f) (h:=h) (rs:=rs) (z:=z0) hop ht ht2 ((hl.ox y (by rw[hop]; simp[Op.operands])).trans hy) ((congrFun hl.hp j).trans hb) hf (hp hh) (hlt hh)) hk
theorem zpn {α:Type} {dd:Option Nat} {t e:TypeId} {y z:Operand} {p q:List Prop} {sz:Nat} {f:α→List Leaf} {rs:List α} {z0:α} {ki:IntKind} {iz:Int} (hk:z0a P E ops ns bs l (σ.put dd (.c (.lf (.obj (f (rs.getD iz.toNat z0)))))) K) (hop:o.op= .indexAddr t y z:=by exact rfl) (hg:o.guard=none:=by exact rfl) (hdf:z0j o.dst some=some dd:=by exact rfl) (hd:z0e E.n dd=true:=by rw[hn]; exact rfl) (ht:P.underlying t=some (.slice e):=by exact rfl) (hy:ox ⟨σ.tm,fgt b σ.hp⟩ y=(p,.c (.lf (.recs sz (rs.map f)))):=by exact rfl) (hz:ox ⟨σ.tm,fgt b σ.hp⟩ z=(q,lv (.int ki iz)):=by exact rfl) (hc:P.cellsOf e=sz:=by first |(simp; done) | fail) (hsz:Nat.beq sz 0=false:=by exact rfl) (hp:z03 (p++q):=by exact vcs) (hi:(0≤iz∧iz<(rs.length:Int)):=by first | omega |(simp; done) |(simp; omega) |(simp at*; omega)) (hz0:Df z0:=by first | exact Df.nil | exact Df.dflt):z0a P E ops ns ((b,own)::bs) (o::l) σ K:=z20 hdf hd (z1N (fun τ hl=>z4K (f:=f) (rs:=rs) (b:=z0) hop ht hc (by rintro rfl; simp at hsz) ((hl.ox y (by rw[hop]; simp[Op.operands])).trans hy) ((hl.ox z (by rw[hop]; simp[Op.operands])).trans hz) hp hi) hg) hk
theorem zpo {α:Type} {dd:Option Nat} {t e:TypeId} {y z:Operand} {p q:List Prop} {sz:Nat} {f:α→List Leaf} {rs:List α} {z0:α} {ki:IntKind} {iz:Int} {gi:Nat} {gb G:Bool} (hk:z0a P E ops ns bs l (σ.put dd (.cnd G (.c (.lf (.obj (f (rs.getD iz.toNat z0))))))) K) (hop:o.op= .indexAddr t y z:=by exact rfl) (hg:o.guard=some (gi,gb):=by exact rfl) (hG:z0V ops ⟨σ.tm,fgt b σ.hp⟩ gi gb=some G:=by exact rfl) (hdf:z0j o.dst some=some dd:=by exact rfl) (hd:z0e E.n dd=true:=by rw[hn]; exact rfl) (ht:P.underlying t=some (.slice e):=by exact rfl) (hy:ox ⟨σ.tm,fgt b σ.hp⟩ y=(p,.c (.lf (.recs sz (rs.map f)))):=by exact rfl) (hz:ox ⟨σ.tm,fgt b σ.hp⟩ z=(q,lv (.int ki iz)):=by exact rfl) (hc:P.cellsOf e=sz:=by first |(simp; done) | fail) (hsz:Nat.beq sz 0=false:=by exact rfl) (hp:G=true→z03 (p++q):=by intro hG; first | trivial | exact hG | exact⟨hG,hG⟩ |(simp; done) |(simp; omega) |(simp at*; done) |(simp at*; omega)) (hi:G=true→(0≤iz∧iz<(rs.length:Int)):=by intro hG; first | omega |(simp; done) |(simp; omega) |(simp at hG; done) |(simp at hG; omega) |(simp at*; omega)) (hz0:Df z0:=by first | exact Df.nil | exact Df.dflt):z0a P E ops ns ((b,own)::bs) (o::l) σ K:=z20 hdf hd (z3E hg hG fun hh τ hl=>z4K (f:=f) (rs:=rs) (b:=z0) hop ht hc (by rintro rfl; simp at hsz) ((hl.ox y (by rw[hop]; simp[Op.operands])).trans hy) ((hl.ox z (by rw[hop]; simp[Op.operands])).trans hz) (hp hh) (hi hh)) hk
theorem zpp {α:Type} {t:TypeId} {x y:Operand} {px py:List Prop} {j off:Nat} {f:α→List Leaf} {h:α→Leaf} {rs:List α} {c:α} (hk:z0a P E ops ns bs l (σ.seth j (.row (.recs 1 ((rs.set off c).map f)))) K) (hop:o.op= .store t x y:=by exact rfl) (hg:o.guard=none:=by exact rfl) (hdn:o.dst=none:=by exact rfl) (hx:ox σ x=(px,.c (.ptr j off)):=by exact rfl) (hc:σ.hp j= .row (.recs 1 (rs.map f)):=by exact rfl) (hf:∀ a,f a= [h a]:=by exact fun _=>rfl)
  (hy:ox σ y=(py,.c (.lf (h c))):=by exact rfl) (hb:z0c j b=false:=by exact rfl) (ho:z0c j own=true:=by exact rfl) (hsz:P.cellsOf t=1:=by first |(simp; done) | fail) (hp:z03 (px++py):=by exact vcs) (hlt:off<rs.length:=by first | omega |(simp; done) |(simp; omega) |(simp at*; omega)):z0a P E ops ns ((b,own)::bs) (o::l) σ K:=by
 refine z5D (z99 hg hdn hb fun τ hox hj=>za3 (f:=f) (h:=h) (rs:=rs) (b:=c) hop hdn ((hox x (by rw[hop]; simp[Op.operands])).trans hx) ((hox y (by rw[hop]; simp[Op.operands])).trans hy) hp (hj.trans hc) hf hsz hlt) (zfD ho (by simp)) ?_
 rw[z5U,hdn]
 exact hk
theorem zpq {t e:TypeId} {sz by_ s:Nat} {c:Call} {x y:Operand} {dd:Option Nat} {px qs:List Prop} {d:Leaf} (hk:z0a P E ops ns bs l (σ.put dd (.c (.lf d))) K) (hop:o.op= .call c:=by exact rfl) (hc:c.callee= .builtin .append:=by exact rfl) (ha:c.args.toList= [x,y]:=by exact rfl) (hty:c.argTypes.toList= [t,t]:=by exact rfl) (hg:o.guard=none:=by exact rfl)
  (hdf:z0j o.dst some=some dd:=by exact rfl) (hd:z0e E.n dd=true:=by rw[hn]; exact rfl) (hx:ox ⟨σ.tm,fgt b σ.hp⟩ x=(px,lv (.slice none 0 0)):=by exact rfl) (hy:z1B ⟨σ.tm,fgt b σ.hp⟩ (ox ⟨σ.tm,fgt b σ.hp⟩ y)=some (qs,d):=by exact rfl)
  (hE:Elt P t e sz by_:=by exact z0n rfl rfl rfl) (hs:z2h sz some=some s:=by exact rfl) (h1:szD d=s:=by exact rfl) (h2:Nat.beq s 0=false:=by exact rfl) (h3:0<z0f d:=by first |(simp[z0f]; done) |(simp[z0f]; omega)) (hp:z03 (px++qs):=by first | trivial | exact Nat.succ_ne_zero _ |(simp[z03]; done) |(simp; done) |(simp; omega) |(simp at*; done) |(simp at*; omega)) (hlim:z0f d≤4294967296∧by_≤4096:=by exact⟨by first |(simp[z0f]; done) |(simp[z0f]; omega),by decide⟩):z0a P E ops ns ((b,own)::bs) (o::l) σ K:=by
 obtain rfl:=z1u hs
 exact z20 hdf hd (z1N (zho hop hc ha hty hE hx hy hp ⟨h1,by rintro h0; rw[h0] at h2; simp at h2,h3⟩ hlim) hg) hk
theorem zpr {t e:TypeId} {sz by_ n s:Nat} {parts:Array (Nat×Operand)} {ps:List Prop} {out:List Cell} {d:Leaf} {dd:Option Nat} (hk:z0a P E ops ns bs l (σ.put dd (.c (.lf d))) K) (hop:o.op= .buildSlice t n parts:=by exact rfl) (hg:o.guard=none:=by exact rfl) (hdf:z0j o.dst some=some dd:=by exact rfl) (hd:z0e E.n dd=true:=by rw[hn]; exact rfl)
  (hE:Elt P t e sz by_:=by exact z0n rfl rfl rfl) (hs:z2h sz some=some s:=by exact rfl) (hf:z1A (fun i=>some (i*s,s)) (List.replicate (n*s) .un) (parts.toList.map fun(i,x)=>(i,ox ⟨σ.tm,fgt b σ.hp⟩ x))=some (ps,out):=by exact rfl) (hdd:z3n (z2H P e s n out) some=some d:=by exact rfl) (hnn:n*s≤16777216∧n≤16777216∧z0f d=n∧szD d=s:=by exact⟨by decide,by decide,rfl,rfl⟩)
  (hz:z01 P e:=by first |(simp; done) | fail) (hp:z03 ps:=by exact vcs):z0a P E ops ns ((b,own)::bs) (o::l) σ K:=by
 obtain rfl:=z1u hs
 exact z20 hdf hd (z1N (z7m hop hE hz hf hp (z2T hdd) hnn) hg) hk
theorem zps {dd:Option Nat} {t e:TypeId} {y z:Operand} {p q:List Prop} {sz:Nat} {rs:List (List Leaf)} {r:List Leaf} {ki:IntKind} {iz:Int} (hk:z0a P E ops ns bs l (σ.put dd (.c (.lf (.obj r)))) K) (hop:o.op= .indexAddr t y z:=by exact rfl) (hg:o.guard=none:=by exact rfl) (hdf:z0j o.dst some=some dd:=by exact rfl) (hd:z0e E.n dd=true:=by rw[hn]; exact rfl) (ht:P.underlying t=some (.slice e):=by exact rfl) (hy:ox ⟨σ.tm,fgt b σ.hp⟩ y=(p,.c (.lf (.recs sz rs))):=by exact rfl) (hz:ox ⟨σ.tm,fgt b σ.hp⟩ z=(q,lv (.int ki iz)):=by exact rfl) (hr:z4o.go (rs.getD iz.toNat []) some=some r:=by exact rfl) (hc:P.cellsOf e=sz:=by first |(simp; done) | fail) (hsz:Nat.beq sz 0=false:=by exact rfl) (hp:z03 (p++q):=by exact vcs) (hi:0≤iz∧iz<(rs.length:Int):=by first | omega |(simp; done) |(simp; omega) |(simp at*; omega)):z0a P E ops ns ((b,own)::bs) (o::l) σ K:=by
 have hr:rs.getD iz.toNat []=r:=by rw[z5y] at hr; exact Option.some.inj hr
 subst hr
 exact z20 hdf hd (z1N (fun τ hl=>z4y hop ht hc (by rintro rfl; simp at hsz) ((hl.ox y (by rw[hop]; simp[Op.operands])).trans hy) ((hl.ox z (by rw[hop]; simp[Op.operands])).trans hz) hp hi.1 hi.2) hg) hk
theorem zpt {t e:TypeId} {sz by_ n s dn:Nat} {parts:Array (Nat×Operand)} {ps:List Prop} {out:List Cell} {d:Leaf} (hk:z0a P E ops ns bs l ((σ.seth (nk (some dn) 0) (.row d)).put (some dn) (.c (.own (nk (some dn) 0) s 0 n))) K) (hop:o.op= .buildSlice t n parts:=by exact rfl) (hg:o.guard=none:=by exact rfl) (hd:o.dst=some dn:=by exact rfl) (hd0:z0e E.n (some dn)=true:=by rw[hn]; exact rfl)
  (hgone:σ.hp (nk (some dn) 0)= .gone:=by exact rfl) (hKb:z0c (nk (some dn) 0) b=false:=by exact rfl) (hns:z0c (nk (some dn) 0) ns=true:=by exact rfl) (ho:z0c (nk (some dn) 0) own=true:=by exact rfl)
  (hE:Elt P t e sz by_:=by exact z0n rfl rfl rfl) (hs:z2h sz some=some s:=by exact rfl) (hf:z1A (fun i=>some (i*s,s)) (List.replicate (n*s) .un) (parts.toList.map fun(i,x)=>(i,ox ⟨σ.tm,fgt b σ.hp⟩ x))=some (ps,out):=by exact rfl) (hdd:z3n (z2H P e s n out) some=some d:=by exact rfl) (hnn:n*s≤16777216∧n≤16777216∧z0f d=n∧szD d=s:=by exact⟨by decide,by decide,rfl,rfl⟩)
  (hz:z01 P e:=by first |(simp; done) | fail) (hp:z03 ps:=by exact vcs):z0a P E ops ns ((b,own)::bs) (o::l) σ K:=by
 obtain rfl:=z1u hs
 exact zrH hop hg hd hd0 hE hz hf hp (z2T hdd) hnn hgone hKb hns ho hk
theorem zpu {c:Call} {fo:Operand} {f:FuncId} {first cap:List Cell} {pf:List Prop} {xs:List Av} {dn sz n:Nat} {d:Leaf} (hk:z0a P E ops ns bs l ((σ.seth (nk (some dn) 0) (.row d)).put (some dn) (.c (.own (nk (some dn) 0) sz 0 n))) K) (hop:o.op= .call c:=by exact rfl) (hg:o.guard=none:=by exact rfl) (hd:o.dst=some dn:=by exact rfl) (hE:z0e E.n (some dn)=true:=by rw[hn]; exact rfl)
 (hcv:c.callee= .value fo:=by exact rfl) (hfo:ox ⟨σ.tm,fgt b σ.hp⟩ fo=(pf,.c (.fn (.func f) first cap)):=by exact rfl) (hgone:σ.hp (nk (some dn) 0)= .gone:=by exact rfl) (hKb:z0c (nk (some dn) 0) b=false:=by exact rfl) (hns:z0c (nk (some dn) 0) ns=true:=by exact rfl) (ho:z0c (nk (some dn) 0) own=true:=by exact rfl)
 (hxs:first.map Av.c++(oxs ⟨σ.tm,fgt b σ.hp⟩ c.args.toList).2++cap.map Av.c=xs:=by exact rfl) (hF:Ct P f xs [] (.c (.own 0 sz 0 n)) [] [.row d]:=by assumption) (hren:xs.map (Av.ren (z0B [] (some dn) 1))=xs:=by exact rfl) (hok:xs.all (Av.ok 0)=true:=by exact rfl) (hok2:Blk.ok 1 (.row d)=true:=by exact rfl) (hren2:Blk.ren (z0B [] (some dn) 1) (.row d)= .row d:=by exact rfl)
 (hp:z03 (pf++(oxs ⟨σ.tm,fgt b σ.hp⟩ c.args.toList).1):=by exact vcs):z0a P E ops ns ((b,own)::bs) (o::l) σ K:=zrI hF hop hg hd hE hcv hfo hxs hren hok hok2 hren2 hp hgone hKb hns ho hk
theorem zpv {t e:TypeId} {by_ j n:Nat} {c:Call} {x y:Operand} {dn:Nat} {px qs:List Prop} {k:IntKind} {l1 l2:List Int} (hk:z0a P E ops ns bs l (((σ.seth j .gone).seth (nk (some dn) 0) (.row (.ints k (l1++l2)))).put (some dn) (.c (.own (nk (some dn) 0) 1 0 (l1++l2).length))) K) (hop:o.op= .call c:=by exact rfl) (hc:c.callee= .builtin .append:=by exact rfl) (ha:c.args.toList= [x,y]:=by exact rfl) (hty:c.argTypes.toList= [t,t]:=by exact rfl) (hg:o.guard=none:=by exact rfl)
  (hd:o.dst=some dn:=by exact rfl) (hd0:z0e E.n (some dn)=true:=by rw[hn]; exact rfl) (hx:ox ⟨σ.tm,fgt b σ.hp⟩ x=(px,.c (.own j 1 0 n)):=by exact rfl) (hb:σ.hp j= .row (.ints k (l1)):=by exact rfl) (hy:z1B ⟨σ.tm,fgt b σ.hp⟩ (ox ⟨σ.tm,fgt b σ.hp⟩ y)=some (qs,.ints k (l2)):=by exact rfl) (hjb:z0c j b=false:=by exact rfl) (hjo:z0c j own=true:=by exact rfl) (hjK:Nat.beq j (nk (some dn) 0)=false:=by exact rfl) (hgone:σ.hp (nk (some dn) 0)= .gone:=by exact rfl) (hKb:z0c (nk (some dn) 0) b=false:=by exact rfl) (hns:z0c (nk (some dn) 0) ns=true:=by exact rfl) (ho:z0c (nk (some dn) 0) own=true:=by exact rfl)
  (hE:Elt P t e 1 by_:=by exact z0n rfl rfl rfl) (hp:z03 (px++qs):=by first | trivial | exact Nat.succ_ne_zero _ |(simp[z03]; done) |(simp; done) |(simp; omega) |(simp at*; done) |(simp at*; omega)) (hnl:n=l1.length:=by first | rfl |(simp; done) |(simp; omega)) (hlim:l1.length+l2.length≤4294967296∧by_≤4096:=by exact⟨by first |(simp; done) |(simp; omega) |(simp at*; omega),by decide⟩):z0a P E ops ns ((b,own)::bs) (o::l) σ K:=by
 subst hnl
 exact zkf (d:= .ints k (l1)) (d2:= .ints k (l2)) (d':= .ints k (l1++l2)) hop hc ha hty hg hd hd0 hE hx hb hy hp (by simp[z0Q,z40]) ⟨rfl,by decide,by simp[z0f]⟩ hlim (by simp[z0f]) hjb hjo hjK hgone hKb hns ho hk
theorem zpw {t e:TypeId} {by_ j n:Nat} {c:Call} {x y:Operand} {dn:Nat} {px qs:List Prop} {sz:Nat} {l1 l2:List (List Leaf)} (hk:z0a P E ops ns bs l (((σ.seth j .gone).seth (nk (some dn) 0) (.row (.recs sz (l1++l2)))).put (some dn) (.c (.own (nk (some dn) 0) sz 0 (l1++l2).length))) K) (hop:o.op= .call c:=by exact rfl) (hc:c.callee= .builtin .append:=by exact rfl) (ha:c.args.toList= [x,y]:=by exact rfl) (hty:c.argTypes.toList= [t,t]:=by exact rfl) (hg:o.guard=none:=by exact rfl)
  (hd:o.dst=some dn:=by exact rfl) (hd0:z0e E.n (some dn)=true:=by rw[hn]; exact rfl) (hx:ox ⟨σ.tm,fgt b σ.hp⟩ x=(px,.c (.own j sz 0 n)):=by exact rfl) (hb:σ.hp j= .row (.recs sz (l1)):=by exact rfl) (hy:z1B ⟨σ.tm,fgt b σ.hp⟩ (ox ⟨σ.tm,fgt b σ.hp⟩ y)=some (qs,.recs sz (l2)):=by exact rfl) (hjb:z0c j b=false:=by exact rfl) (hjo:z0c j own=true:=by exact rfl) (hjK:Nat.beq j (nk (some dn) 0)=false:=by exact rfl) (hgone:σ.hp (nk (some dn) 0)= .gone:=by exact rfl) (hKb:z0c (nk (some dn) 0) b=false:=by exact rfl) (hns:z0c (nk (some dn) 0) ns=true:=by exact rfl) (ho:z0c (nk (some dn) 0) own=true:=by exact rfl)
  (hE:Elt P t e sz by_:=by exact z0n rfl rfl rfl) (hsz:Nat.beq sz 0=false:=by exact rfl) (hp:z03 (px++qs):=by first | trivial | exact Nat.succ_ne_zero _ |(simp[z03]; done) |(simp; done) |(simp; omega) |(simp at*; done) |(simp at*; omega)) (hnl:n=l1.length:=by first | rfl |(simp; done) |(simp; omega)) (hlim:l1.length+l2.length≤4294967296∧by_≤4096:=by exact⟨by first |(simp; done) |(simp; omega) |(simp at*; omega),by decide⟩):z0a P E ops ns ((b,own)::bs) (o::l) σ K:=by
 subst hnl
 exact zkf (d:= .recs sz (l1)) (d2:= .recs sz (l2)) (d':= .recs sz (l1++l2)) hop hc ha hty hg hd hd0 hE hx hb hy hp (by simp[z0Q,z40]) ⟨rfl,by rintro rfl; simp at hsz,by simp[z0f]⟩ hlim (by simp[z0f]) hjb hjo hjK hgone hKb hns ho hk
theorem zpx {t e:TypeId} {by_ j n:Nat} {c:Call} {x y:Operand} {dd:Option Nat} {mm:Nat} {px qs:List Prop} {k:IntKind} {l1 l2:List Int} (hk:z0a P E ops ns bs l ((σ.seth j .gone).put dd (.c (.lf (.ints k (l1++l2))))) K) (hop:o.op= .call c:=by exact rfl) (hc:c.callee= .builtin .append:=by exact rfl) (ha:c.args.toList= [x,y]:=by exact rfl) (hty:c.argTypes.toList= [t,t]:=by exact rfl) (hg:o.guard=none:=by exact rfl)
  (hd:z0j o.dst some=some dd:=by exact rfl) (hd0:z0e E.n dd=true:=by rw[hn]; exact rfl) (hx:ox ⟨σ.tm,fgt b σ.hp⟩ x=(px,.c (.own j 1 0 n)):=by exact rfl) (hbj:σ.hp j= .row (.ints k (l1)):=by exact rfl) (hy:z1B ⟨σ.tm,fgt b σ.hp⟩ (ox ⟨σ.tm,fgt b σ.hp⟩ y)=some (qs,.ints k (l2)):=by exact rfl) (hjb:z0c j b=false:=by exact rfl) (hjo:z0c j own=true:=by exact rfl) (hnb:E.nb=mm:=by exact hb) (hjn:Nat.ble mm j=true:=by exact rfl) (hlv:(List.range mm).all (fun i=>match z0c i b,σ.hp i with | false,.gone=>false | true,_=>false | _,_=>true)=true:=by exact rfl)
  (hE:Elt P t e 1 by_:=by exact z0n rfl rfl rfl) (hp:z03 (px++qs):=by first | trivial | exact Nat.succ_ne_zero _ |(simp[z03]; done) |(simp; done) |(simp; omega) |(simp at*; done) |(simp at*; omega)) (hnl:n=l1.length:=by first | rfl |(simp; done) |(simp; omega)) (hlim:l1.length+l2.length≤4294967296∧by_≤4096:=by exact⟨by first |(simp; done) |(simp; omega) |(simp at*; omega),by decide⟩):z0a P E ops ns ((b,own)::bs) (o::l) σ K:=by
 subst hnl
 exact zkg (d:= .ints k (l1)) (d2:= .ints k (l2)) (d':= .ints k (l1++l2)) hop hc ha hty hg (by simpa only[z0t,Option.some.injEq] using hd) hd0 hE hx hbj hy hp (by simp[z0Q,z40]) ⟨rfl,by decide,by simp[z0f]⟩ hlim hjb hjo hnb hjn hlv hk
theorem zpy {t e:TypeId} {by_ j n:Nat} {c:Call} {x y:Operand} {dd:Option Nat} {mm:Nat} {px qs:List Prop} {sz:Nat} {l1 l2:List (List Leaf)} (hk:z0a P E ops ns bs l ((σ.seth j .gone).put dd (.c (.lf (.recs sz (l1++l2))))) K) (hop:o.op= .call c:=by exact rfl) (hc:c.callee= .builtin .append:=by exact rfl) (ha:c.args.toList= [x,y]:=by exact rfl) (hty:c.argTypes.toList= [t,t]:=by exact rfl) (hg:o.guard=none:=by exact rfl)
  (hd:z0j o.dst some=some dd:=by exact rfl) (hd0:z0e E.n dd=true:=by rw[hn]; exact rfl) (hx:ox ⟨σ.tm,fgt b σ.hp⟩ x=(px,.c (.own j sz 0 n)):=by exact rfl) (hbj:σ.hp j= .row (.recs sz (l1)):=by exact rfl) (hy:z1B ⟨σ.tm,fgt b σ.hp⟩ (ox ⟨σ.tm,fgt b σ.hp⟩ y)=some (qs,.recs sz (l2)):=by exact rfl) (hjb:z0c j b=false:=by exact rfl) (hjo:z0c j own=true:=by exact rfl) (hnb:E.nb=mm:=by exact hb) (hjn:Nat.ble mm j=true:=by exact rfl) (hlv:(List.range mm).all (fun i=>match z0c i b,σ.hp i with | false,.gone=>false | true,_=>false | _,_=>true)=true:=by exact rfl)
  (hE:Elt P t e sz by_:=by exact z0n rfl rfl rfl) (hsz:Nat.beq sz 0=false:=by exact rfl) (hp:z03 (px++qs):=by first | trivial | exact Nat.succ_ne_zero _ |(simp[z03]; done) |(simp; done) |(simp; omega) |(simp at*; done) |(simp at*; omega)) (hnl:n=l1.length:=by first | rfl |(simp; done) |(simp; omega)) (hlim:l1.length+l2.length≤4294967296∧by_≤4096:=by exact⟨by first |(simp; done) |(simp; omega) |(simp at*; omega),by decide⟩):z0a P E ops ns ((b,own)::bs) (o::l) σ K:=by
 subst hnl
 exact zkg (d:= .recs sz (l1)) (d2:= .recs sz (l2)) (d':= .recs sz (l1++l2)) hop hc ha hty hg (by simpa only[z0t,Option.some.injEq] using hd) hd0 hE hx hbj hy hp (by simp[z0Q,z40]) ⟨rfl,by rintro rfl; simp at hsz,by simp[z0f]⟩ hlim hjb hjo hnb hjn hlv hk
def zap (σ:St) (l:List Oper):Nat→Nat→Nat
 | 0,_=>0
 | f+1,s=>match fnd l s 0 with
   | none=>(match σ.tm s with | .c c=>(match z97 c with | some j=>j | none=>0) | _=>0)
   | some i=>(match l[i]? with
     | some o=>(match o.op with
       | .alloc _=>nk (some s) 0
       | .fieldAddr _ (.tmp s') _=>zap σ l f s'
       | .indexAddr _ (.tmp s') _=>zap σ l f s'
       | .move (.tmp s')=>zap σ l f s'
       | _=>0)
     | none=>0)
def zpz:List Cell→Nat
 | []=>63
 | .own j _ _ _::_=>j
 | _::l=>zpz l
def zxz (σ:St) (l:List Oper) (t:Nat):Nat:=match fnd l t 0 with
 | none=>(match σ.tm t with | .c (.own j _ _ _)=>j | _=>63)
 | some i=>(match l[i]? with
   | some o=>(match o.op with
     | .load _ (.tmp s)=>(match σ.hp (zap σ l 4 s) with | .cells cs=>zpz cs | _=>63)
     | .move (.tmp s)=>(match fnd l s 0 with | none=>(match σ.tm s with | .c (.own j _ _ _)=>j | _=>63) | some _=>63)
     | _=>63)
   | none=>63)
def zpA:List Cell→Nat
 | []=>63
 | .map j::_=>j
 | _::l=>zpA l
def zxA (σ:St) (l:List Oper) (t:Nat):Nat:=match fnd l t 0 with
 | none=>(match σ.tm t with | .c (.map j)=>j | _=>63)
 | some i=>(match l[i]? with
   | some o=>(match o.op with
     | .load _ (.tmp s)=>(match σ.hp (zap σ l 4 s) with | .cells cs=>zpA cs | _=>63)
     | .move (.tmp s)=>(match fnd l s 0 with | none=>(match σ.tm s with | .c (.map j)=>j | _=>63) | some _=>63)
     | _=>63)
   | none=>63)
def z5z (σ:St) (l:List Oper):List Oper→List Nat
 | []=> []
 | o::r=>match o.op with
   | .store _ (.tmp s) _=>zap σ l 4 s::z5z σ l r
   | .store _ _ _=>63::z5z σ l r
   | .mapUpdate _ (.tmp s) _ _=>zxA σ l s::z5z σ l r
   | .mapUpdate _ _ _ _=>63::z5z σ l r
   | op=>(match apA op with
     | some t=>(match zfC l t with | true=>z5z σ l r | false=>zxz σ l t::z5z σ l r)
     | none=>z5z σ l r)
theorem du1 {id:Nat} {ks:List Nat} (h:z0a P E l.toArray (z9O l) bs l (σ.kills (z9O l)) (fun τ=>WL P E l.toArray Q [] τ)) (hks:z5B (z5z σ l l) some=some ks:=by exact rfl) (hm:P.follows .mixedOrders=true:=by kernel_rfl)
 (hbs:z45 (z6e l.toArray (wsU 0 l ks) 0 l) some=some bs:=by exact rfl) (hB:z6f l.toArray l (z9O l) (wsU 0 l ks)=true:=by kernel_rfl) (h64:(z9O l).all (Nat.ble 64)=true:=by exact rfl):W P E (.region id l.toArray true) Q σ:=z6F (z9O l) (wsU 0 l ks) hm hB hbs h64 h
theorem du2 {id:Nat} {ks:List Nat} (h:z0a P E l.toArray (z3o true l l) bs l (σ.kills (z3o true l l)) (fun τ=>WL P E l.toArray Q [] τ)) (hks:z5B (z5z σ l l) some=some ks:=by exact rfl) (hm:P.follows .mixedOrders=true:=by kernel_rfl)
 (hbs:z45 (z6e l.toArray (wsV true l 0 l ks) 0 l) some=some bs:=by exact rfl) (hB:z6f l.toArray l (z3o true l l) (wsV true l 0 l ks)=true:=by kernel_rfl) (h64:(z3o true l l).all (Nat.ble 64)=true:=by exact rfl):W P E (.region id l.toArray true) Q σ:=z6F (z3o true l l) (wsV true l 0 l ks) hm hB hbs h64 h
end
section
variable {P:Program} {E:Env} {ops:Array Oper} {o:Oper} {σ:St} {l:List Oper} {K:St→Prop}
theorem wl1 {α:Type} {dd:Option Nat} {t:TypeId} {y:Operand} {p:List Prop} {j off:Nat} {f:α→List Leaf} {h:α→Leaf} {rs:List α} {z0:α} (hk:z2O P E ops l (σ.put dd (.c (.lf (h (rs.getD off z0))))) K) (hop:o.op= .load t y:=by exact rfl) (hg:o.guard=none:=by exact rfl) (hdf:z0j o.dst some=some dd:=by exact rfl)
  (ht:z2w P t=false:=by exact rfl) (ht2:(P.underlying t).isSome=true:=by exact rfl) (hy:ox σ y=(p,.c (.ptr j off)):=by exact rfl) (hb:σ.hp j= .row (.recs 1 (rs.map f)):=by exact rfl) (hf:∀ a,f a= [h a]:=by exact fun _=>rfl) (hp:z03 p:=by exact vcs) (hlt:off<rs.length:=by first | omega |(simp; done) |(simp; omega) |(simp at*; omega)) (hz0:Df z0:=by first | exact Df.nil | exact Df.dflt):z2O P E ops (o::l) σ K:=
 z2y hdf (z1N (fun τ hl=>z5q (f:=f) (h:=h) (rs:=rs) (z:=z0) hop ht ht2 ((hl.ox y (by rw[hop]; simp[Op.operands])).trans hy) ((congrFun hl.hp j).trans hb) hf hp hlt) hg) hk
theorem wi1 {α:Type} {dd:Option Nat} {t e:TypeId} {y z:Operand} {p q:List Prop} {sz:Nat} {f:α→List Leaf} {rs:List α} {z0:α} {ki:IntKind} {iz:Int} (hk:z2O P E ops l (σ.put dd (.c (.lf (.obj (f (rs.getD iz.toNat z0)))))) K) (hop:o.op= .indexAddr t y z:=by exact rfl) (hg:o.guard=none:=by exact rfl) (hdf:z0j o.dst some=some dd:=by exact rfl)
  (ht:P.underlying t=some (.slice e):=by exact rfl) (hy:ox σ y=(p,.c (.lf (.recs sz (rs.map f)))):=by exact rfl) (hz:ox σ z=(q,lv (.int ki iz)):=by exact rfl) (hc:P.cellsOf e=sz:=by first |(simp; done) | fail) (hsz:Nat.beq sz 0=false:=by exact rfl) (hp:z03 (p++q):=by exact vcs) (hi:0≤iz∧iz<(rs.length:Int):=by first | omega |(simp; done) |(simp; omega) |(simp at*; omega)) (hz0:Df z0:=by first | exact Df.nil | exact Df.dflt):z2O P E ops (o::l) σ K:=
 z2y hdf (z1N (fun τ hl=>z4K (f:=f) (rs:=rs) (b:=z0) hop ht hc (by rintro rfl; simp at hsz) ((hl.ox y (by rw[hop]; simp[Op.operands])).trans hy) ((hl.ox z (by rw[hop]; simp[Op.operands])).trans hz) hp hi) hg) hk
theorem wli {t e:TypeId} {sz by_ n s:Nat} {parts:Array (Nat×Operand)} {ps:List Prop} {out:List Cell} {d:Leaf} {dd:Option Nat} (hk:z2O P E ops l (σ.put dd (.c (.lf d))) K) (hop:o.op= .buildSlice t n parts:=by exact rfl) (hg:o.guard=none:=by exact rfl) (hdf:z0j o.dst some=some dd:=by exact rfl)
  (hE:Elt P t e sz by_:=by exact z0n rfl rfl rfl) (hs:z2h sz some=some s:=by exact rfl) (hf:z1A (fun i=>some (i*s,s)) (List.replicate (n*s) .un) (parts.toList.map fun(i,x)=>(i,ox σ x))=some (ps,out):=by exact rfl) (hdd:z3n (z2H P e s n out) some=some d:=by exact rfl) (hnn:n*s≤16777216∧n≤16777216∧z0f d=n∧szD d=s:=by exact⟨by decide,by decide,rfl,rfl⟩)
  (hz:z01 P e:=by first |(simp; done) | fail) (hp:z03 ps:=by exact vcs):z2O P E ops (o::l) σ K:=by
 obtain rfl:=z1u hs
 exact z2y hdf (z1N (z7m hop hE hz hf hp (z2T hdd) hnn) hg) hk
theorem wc1 {d:Option Nat} {c:Call} {fo:Operand} {f:FuncId} {first cap:List Cell} {pf:List Prop} {xs:List Av} {res r:Av} (hk:z2O P E ops l (σ.put d r) K) (hop:o.op= .call c:=by exact rfl) (hg:o.guard=none:=by exact rfl) (hd:z0j o.dst some=some d:=by exact rfl)
  (hcv:c.callee= .value fo:=by exact rfl) (hfo:ox σ fo=(pf,.c (.fn (.func f) first cap)):=by exact rfl) (hxs:first.map Av.c++(oxs σ c.args.toList).2++cap.map Av.c=xs:=by exact rfl) (hF:Ct P f xs [] res [] []:=by assumption) (hok:(xs.all (Av.ok 0)&&res.ok 0)=true:=by exact rfl) (hr:z2v res some=some r:=by exact rfl) (hp:z03 (pf++(oxs σ c.args.toList).1):=by exact vcs):z2O P E ops (o::l) σ K:=
 z2y hd (z1N (z6i hF hop hcv hfo hp hxs hok hr) hg) hk
end
def z7Q:Leaf→Bool
 | .ints _ _=>true
 | .recs _ _=>true
 | _=>false
theorem SR.frz1 {E:Env} {σ:St} {a:Act} {w:World} (s:Nat) {j sz n m:Nat} {d:Leaf} (hs:σ.tm s= .c (.own j sz 0 n)) (hj:σ.hp j= .row d) (hd:szD d=sz∧n=z0f d) (hr:z7Q d=true) (hnb:E.nb=m) (hjn:Nat.ble m j=true) (h:SR E σ a w):SR E ((σ.kill j).set s (.c (.lf d))) a w:=by
 obtain⟨β,F,h⟩:=h
 have:=h.freeze hj (by rw[hnb]; exact Nat.le_of_ble_eq_true hjn) [(s,.c (.lf d))] (fun p hp=>by
  rw[List.mem_singleton.1 hp]
  dsimp only
  rw[hs]
  refine⟨?_,rfl⟩
  obtain⟨h1,h2⟩:=hd
  cases d with
  | ints k l=>exact⟨rfl,h1.symm,rfl,by simp[z0f] at h2; omega,by simp[z0f] at h2; subst h2; simp⟩
  | recs s2 l=>exact⟨rfl,h1.symm,rfl,rfl,by simp[z0f] at h2; omega,by simp[z0f] at h2; subst h2; simp⟩
  | v x=>cases hr
  | obj cs=>cases hr)
 exact this
section
variable {P:Program} {E:Env} {ops:Array Oper} {Q:Exit→Act→World→Prop} {rest:List Oper} {σ:St} {j sz n m:Nat} {d:Leaf}
theorem z31 {e:Exit} (s:Nat) (h:N E Q e ((σ.kill j).set s (.c (.lf d)))) (hs:σ.tm s= .c (.own j sz 0 n):=by exact rfl) (hj:σ.hp j= .row d:=by exact rfl) (hnb:E.nb=m:=by exact hb) (hd:szD d=sz∧n=z0f d:=by exact⟨rfl,by first | rfl |(simp[z0f]; done) |(simp[z0f]; omega)⟩) (hr:z7Q d=true:=by exact rfl) (hjn:Nat.ble m j=true:=by exact rfl):N E Q e σ:=fun a w hS=>h a w (SR.frz1 s hs hj hd hr hnb hjn hS)
theorem zpB {c:Code} (s:Nat) (h:W P E c Q ((σ.kill j).set s (.c (.lf d)))) (hs:σ.tm s= .c (.own j sz 0 n):=by exact rfl) (hj:σ.hp j= .row d:=by exact rfl) (hnb:E.nb=m:=by exact hb) (hd:szD d=sz∧n=z0f d:=by exact⟨rfl,by first | rfl |(simp[z0f]; done) |(simp[z0f]; omega)⟩) (hr:z7Q d=true:=by exact rfl) (hjn:Nat.ble m j=true:=by exact rfl):W P E c Q σ:=fun a w hS=>h a w (SR.frz1 s hs hj hd hr hnb hjn hS)
theorem zcv (s:Nat) (h:WL P E ops Q rest ((σ.kill j).set s (.c (.lf d)))) (hs:σ.tm s= .c (.own j sz 0 n):=by exact rfl) (hj:σ.hp j= .row d:=by exact rfl) (hnb:E.nb=m:=by exact hb) (hd:szD d=sz∧n=z0f d:=by exact⟨rfl,by first | rfl |(simp[z0f]; done) |(simp[z0f]; omega)⟩) (hr:z7Q d=true:=by exact rfl) (hjn:Nat.ble m j=true:=by exact rfl):WL P E ops Q rest σ:=fun a w hS=>h a w (SR.frz1 s hs hj hd hr hnb hjn hS)
end
def z7R (j:Nat) (d:Leaf):Cell→Cell
 | .own i sz off len=>match Nat.beq i j with | true=> .lf d | false=>(Cell.own i sz off len).kill j
 | c=>c.kill j
def z8w (j:Nat) (d:Leaf):Cell→Bool
 | .own i sz off len=>match Nat.beq i j with | true=>Nat.beq off 0&&Nat.beq sz (szD d)&&z7Q d | false=>true
 | _=>true
def z2N (j:Nat) (d:Leaf):List Cell→List Prop
 | []=> []
 | .own i sz off len::l=>match Nat.beq i j with | true=>(len=z0f d)::z2N j d l | false=>z2N j d l
 | _::l=>z2N j d l
theorem ze5 (j:Nat) (d:Leaf):∀ cs:List Cell,cs.all (z8w j d)=true→z03 (z2N j d cs)→z6h d j cs (cs.map (z7R j d))
 | [],_,_=>trivial
 | c::cs,h,hp=>by
   simp only[List.all_cons,Bool.and_eq_true] at h
   have ih:z03 (z2N j d cs)→z6h d j cs (cs.map (z7R j d)):=ze5 j d cs h.2
   cases c with
   | own i sz off len=>
     cases hb:Nat.beq i j with
     | true=>
       have h1:=h.1
       simp only[z8w,hb,Bool.and_eq_true] at h1
       obtain⟨⟨e1,e2⟩,e3⟩:=h1
       obtain rfl:=Nat.eq_of_beq_eq_true e1
       obtain rfl:=Nat.eq_of_beq_eq_true e2
       obtain rfl:=Nat.eq_of_beq_eq_true hb
       simp only[z2N,hb] at hp
       have hl:len=z0f d:=z03.mem hp _ (List.mem_cons_self ..)
       have hr:z03 (z2N i d cs):=by
        have:z2N i d cs= []++z2N i d cs:=rfl
        exact(show z03 ([len=z0f d]++z2N i d cs) from hp).right
       refine⟨?_,ih hr⟩
       simp only[z7R,hb]
       cases d with
       | ints k l=>exact⟨rfl,rfl,rfl,by simp[z0f] at hl; omega,by simp[z0f] at hl; subst hl; simp⟩
       | recs s l=>exact⟨rfl,rfl,rfl,rfl,by simp[z0f] at hl; omega,by simp[z0f] at hl; subst hl; simp⟩
       | v x=>cases e3
       | obj x=>cases e3
     | false=>
       simp only[z2N,hb] at hp
       refine⟨?_,ih hp⟩
       simp only[z7R,hb]
       have hne:¬ i=j:=fun e=>by rw[e] at hb; simp at hb
       have:(Cell.own i sz off len).kill j= .own i sz off len:=by simp[Cell.kill,Cell.kill1,hne]
       rw[this]
       exact this.symm
   | _=>exact⟨rfl,ih hp⟩
section
variable {P:Program} {E:Env} {Q:Exit→Act→World→Prop} {ops:Array Oper} {rest:List Oper} {σ:St} {d:Leaf} {cs cs':List Cell} {m:Nat}
theorem SR.frzc {a:Act} {w:World} (j K:Nat) (hj:σ.hp j= .row d) (hK:σ.hp K= .cells cs) (hne:Nat.beq K j=false) (hnb:E.nb=m) (hjn:Nat.ble m j=true) (hc:cs.all (z8w j d)=true) (hp:z03 (z2N j d cs)) (hf:z2U (cs.map (z7R j d)) some=some cs') (h:SR E σ a w):SR E ((σ.kill j).seth K (.cells cs')) a w:=by
 simp only[z4E,Option.some.injEq] at hf
 subst hf
 exact SR.freezeC j K hj hK hne (by rw[hnb]; exact Nat.le_of_ble_eq_true hjn) (ze5 j d cs hc hp) h
theorem z4U (j K:Nat) (h:WL P E ops Q rest ((σ.kill j).seth K (.cells cs'))) (hj:σ.hp j= .row d:=by exact rfl) (hK:σ.hp K= .cells cs:=by exact rfl) (hne:Nat.beq K j=false:=by exact rfl) (hnb:E.nb=m:=by exact hb) (hjn:Nat.ble m j=true:=by exact rfl) (hc:cs.all (z8w j d)=true:=by exact rfl)
 (hf:z2U (cs.map (z7R j d)) some=some cs':=by exact rfl) (hp:z03 (z2N j d cs):=by first | trivial | exact rfl |(simp[z2N,z03,z0f]; done)):WL P E ops Q rest σ:=fun a w hS=>h a w (SR.frzc j K hj hK hne hnb hjn hc hp hf hS)
theorem zxB {c:Code} (j K:Nat) (h:W P E c Q ((σ.kill j).seth K (.cells cs'))) (hj:σ.hp j= .row d:=by exact rfl) (hK:σ.hp K= .cells cs:=by exact rfl) (hne:Nat.beq K j=false:=by exact rfl) (hnb:E.nb=m:=by exact hb) (hjn:Nat.ble m j=true:=by exact rfl) (hc:cs.all (z8w j d)=true:=by exact rfl)
 (hf:z2U (cs.map (z7R j d)) some=some cs':=by exact rfl) (hp:z03 (z2N j d cs):=by first | trivial | exact rfl |(simp[z2N,z03,z0f]; done)):W P E c Q σ:=fun a w hS=>h a w (SR.frzc j K hj hK hne hnb hjn hc hp hf hS)
end
theorem zgM {P:Program} {E:Env} {Q:Exit→Act→World→Prop} {σ:St} {c:Code} (h:W P E c (Exit.then (fun _ _=>False) Q) σ):W P E (.loop c) Q σ:=
 z0k (fun _:Unit=>σ) (fun _=>0) (fun _ a w hS=>wp_mono (h a w hS) (fun e a w q=>by
  cases e with
  | normal=>exact q.elim
  | _=>exact q)) ()
theorem zgN {x y:Av} (h:y=x):z3q x y:=by
 subst h
 cases y with
 | c c=>exact Or.inl rfl
 | agg l=>
   show z4W l l
   have:∀ l:List Cell,z4W l l:=by
    intro l
    induction l with
    | nil=>exact trivial
    | cons c l ih=>exact⟨Or.inl rfl,ih⟩
   exact this l
 | _=>rfl
theorem zgO {k:IntKind}:z3q (.c (.lf (.v (.slice none 0 0)))) (.c (.lf (.ints k []))):=Or.inr ⟨rfl,Or.inl ⟨_,rfl⟩⟩
theorem zgP {sz:Nat}:z3q (.c (.lf (.v (.slice none 0 0)))) (.c (.lf (.recs sz []))):=Or.inr ⟨rfl,Or.inr ⟨_,rfl⟩⟩
theorem rtU {P:Program} {E:Env} {σ:St} {fn:Func} {ps:List Prop} {r res:Av} {bor' news:List Blk} {nb:Nat} (ks:List Nat) (hr:z5d (z4t P σ fn.results.toList)=some (ps,r):=by exact rfl)
  (hu:z80 r (res.ren (rho nb ks)):=by first |((repeat (first | refine And.intro (zgN rfl) ?_ | refine And.intro zgO ?_ | refine And.intro zgP ?_)); exact trivial) | exact zgN rfl | exact zgO | exact zgP)
  (hp:z03 ps:=by exact vcs) (f2:z03 ((z0b 0 bor').map fun p=>σ.hp p.1=p.2.ren (rho nb ks)):=by first | trivial | exact rfl | exact⟨rfl,rfl⟩ | exact⟨rfl,rfl,rfl⟩)
  (f3:z03 ((z0b nb news).map fun p=>σ.hp (rho nb ks p.1)=p.2.ren (rho nb ks)):=by first | trivial | exact rfl | exact⟨rfl,rfl⟩)
  (f4:(res.ok (nb+news.length)&&bor'.all (Blk.ok (nb+news.length))&&news.all (Blk.ok (nb+news.length))&&news.all (fun b=>match b with | .gone=>false | _=>true)&&Nat.beq ks.length news.length&&ks.all (fun k=>Nat.ble 64 k)&&decide ks.Nodup)=true:=by exact rfl)
  (hnb:E.nb=nb:=by exact hb) (hlb:bor'.length=nb:=by exact rfl) (hlv:z03 ((z0b 0 bor').map fun p=>p.2≠ .gone):=by first | trivial |(simp; done) |(simp[z0b]; done) | fail):
  N E (bodyPost P fn fun e w'=>∃ v β' F',e= .returned v∧AvR β' F' w' res v∧(∀ i b,bor'[i]? =some b→z0p β' F' w' i b)∧(∀ i b,news[i]? =some b→z0p β' F' w' (nb+i) b)∧Out E.w0 E.M E.F0 nb news.length E.β0 β' F' w') .ret σ:=
 zcG ks hr hp hu ⟨rfl,f2,f3,f4⟩ hnb hlb hlv
theorem nx {A B:Prop} (h:B) (k:B→A:=by first
 | exact fun h=>stp h | exact fun h=>z5K rfl h | exact fun h=>sp1 h | exact fun h=>sg1 h | exact fun h=>st1 h | exact fun h=>al1 h | exact fun h=>bx1 h | exact fun h=>ca1 h | exact fun h=>cg1 h | exact fun h=>eq1 h | exact fun h=>eg1 h | exact fun h=>cl1 true h | exact fun h=>ck1 true h | exact fun h=>cb2 h | exact fun h=>cb1 h
 | exact fun h=>zp9 h | exact fun h=>zpa h | exact fun h=>zpc h | exact fun h=>zpb h | exact fun h=>zpd h | exact fun h=>zpu h | exact fun h=>z7P h | exact fun h=>zpe h | exact fun h=>zpf h | exact fun h=>zfx true h | exact fun h=>zfy true h | exact fun h=>zgU h | exact fun h=>du1 h | exact fun h=>sl1 h | exact fun h=>zpk h | exact fun h=>lo0 h | exact fun h=>li1 h | exact fun h=>ap1 h | exact fun h=>ar1 h | exact fun h=>lm1 h | exact fun h=>im1 h | exact fun h=>sm1 h | exact fun h=>lm2 h | exact fun h=>im2 h | exact fun h=>zpl h | exact fun h=>zpm h | exact fun h=>zpn h | exact fun h=>zpo h | exact fun h=>zpp h | exact fun h=>dp1 h | exact fun h=>dg1 h | exact fun h=>z1i h | exact fun h=>wl1 h | exact fun h=>wi1 h | exact fun h=>wli h | exact fun h=>wc1 h | exact fun h=>an1 h | exact fun h=>zpq h | exact fun h=>zpv h | exact fun h=>zpw h | exact fun h=>zpx h | exact fun h=>zpy h | exact fun h=>zpt h | exact fun h=>zpr h | exact fun h=>ig1 h | exact fun h=>zps h | exact fun h=>np1 h | exact fun h=>cl1 false h | exact fun h=>ck1 false h | exact fun h=>zfx false h | exact fun h=>zfy false h | exact fun h=>xb1 h | exact fun h=>xb2 h | exact fun h=>xs1 h | exact fun h=>xs2 h | exact fun h=>zpg h | exact fun h=>zph h | exact fun h=>zpi h | exact fun h=>zpj h | exact fun h=>cdT h | exact fun h=>cdF h):A:=k h
theorem nxw {A B:Prop} (h:B) (k:B→A:=by first
 | exact fun h=>stp h | exact fun h=>z5K rfl h | exact fun h=>sp1 h | exact fun h=>sg1 h | exact fun h=>st1 h | exact fun h=>al1 h | exact fun h=>bx1 h | exact fun h=>ca1 h | exact fun h=>cg1 h | exact fun h=>eq1 h | exact fun h=>eg1 h | exact fun h=>cl1 true h | exact fun h=>ck1 true h | exact fun h=>cb2 h | exact fun h=>cb1 h
 | exact fun h=>zp9 h | exact fun h=>zpa h | exact fun h=>zpc h | exact fun h=>zpb h | exact fun h=>zpd h | exact fun h=>zpu h | exact fun h=>z7P h | exact fun h=>zpe h | exact fun h=>zpf h | exact fun h=>zfx true h | exact fun h=>zfy true h | exact fun h=>zgU h | exact fun h=>sl1 h | exact fun h=>zpk h | exact fun h=>lo0 h | exact fun h=>li1 h | exact fun h=>ap1 h | exact fun h=>ar1 h | exact fun h=>lm1 h | exact fun h=>im1 h | exact fun h=>sm1 h | exact fun h=>lm2 h | exact fun h=>im2 h | exact fun h=>zpl h | exact fun h=>zpm h | exact fun h=>zpn h | exact fun h=>zpo h | exact fun h=>zpp h | exact fun h=>dp1 h | exact fun h=>dg1 h | exact fun h=>z1i h | exact fun h=>wl1 h | exact fun h=>wi1 h | exact fun h=>wli h | exact fun h=>wc1 h | exact fun h=>an1 h | exact fun h=>zpq h | exact fun h=>zpv h | exact fun h=>zpw h | exact fun h=>zpx h | exact fun h=>zpy h | exact fun h=>zpt h | exact fun h=>zpr h | exact fun h=>ig1 h | exact fun h=>zps h | exact fun h=>np1 h | exact fun h=>cl1 false h | exact fun h=>ck1 false h | exact fun h=>zfx false h | exact fun h=>zfy false h | exact fun h=>xb1 h | exact fun h=>xb2 h | exact fun h=>xs1 h | exact fun h=>xs2 h | exact fun h=>zpg h | exact fun h=>zph h | exact fun h=>zpi h | exact fun h=>zpj h | exact fun h=>cdT h | exact fun h=>cdF h):A:=k h
end Go.Sx

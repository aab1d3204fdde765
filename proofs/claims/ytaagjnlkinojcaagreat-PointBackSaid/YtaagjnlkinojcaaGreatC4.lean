/-
  Chapter 02: tags that are read. The conditions: rows of at most a million bytes.
-/
import Derived.Test.YtaagjnlkinojcaaGreatW10
namespace Go.Proofs.YtaagjnlkinojcaaGreat
set_option linter.unusedSimpArgs false
set_option linter.unusedVariables false
open Go.Sx
set_option maxRecDepth 10000
def z0F:Int→List Int→Int
 | c,[]=>c
 | c,x::l=>z0F (256*c+x) l
theorem zev {x:Int} {l:List Int} (h:WfB (x::l)):WfB l:=fun y hy=>h y (List.mem_cons_of_mem _ hy)
theorem z7o:∀(l:List Int) (c:Int),0≤c→WfB l→c≤z0F c l
 | [],c,_,_=>Int.le_refl _
 | x::l,c,hc,hw=>by
   have hx:=hw x (List.mem_cons_self ..)
   have:=z7o l (256*c+x) (by omega) (zev hw)
   simp only[z0F]
   omega
theorem zbw:∀(l:List Int) (c:Int),WfB l→z0F c l<(c+1)*256^l.length
 | [],c,_=>by simp[z0F]; omega
 | x::l,c,hw=>by
   have hx:=hw x (List.mem_cons_self ..)
   have:=zbw l (256*c+x) (zev hw)
   simp only[z0F,List.length_cons]
   have h2:(256*c+x+1)*256^l.length≤(256*(c+1))*(256:Int)^l.length:=Int.mul_le_mul_of_nonneg_right (by omega) (Int.pow_nonneg (by decide))
   have h3:(c+1)*(256:Int)^(l.length+1)=(256*(c+1))*256^l.length:=by
    rw[Int.pow_succ,Int.mul_comm ((256:Int)^l.length) 256,←Int.mul_assoc,Int.mul_comm (c+1) 256]
   omega
theorem zew {l:List Int} (h:WfB l) (n:Nat):WfB (l.take n):=fun x hx=>h x (List.mem_of_mem_take hx)
theorem zex:∀(a b:List Int) (c:Int),z0F c (a++b)=z0F (z0F c a) b
 | [],_,_=>rfl
 | x::a,b,c=>by simp only[List.cons_append,z0F,zex a b]
theorem zpP (a b:Nat) (h:a≤b):(256:Int)^a≤256^b:=by
 have h1:(256:Nat)^a≤256^b:=Nat.pow_le_pow_right (by decide) h
 have h2:((256^a:Nat):Int)=256^a:=by simp
 have h3:((256^b:Nat):Int)=256^b:=by simp
 rw[←h2,←h3]
 exact Int.ofNat_le.2 h1
theorem zhq (l:List Int) (n:Nat) (hn:l.length≤n) (hw:WfB l):z0F 0 l<256^n:=by
 have h:=zbw l 0 hw
 have h2:=zpP l.length n hn
 omega
theorem zdb (a:List Int) (x:Int):z0F 0 (a++ [x])=256*z0F 0 a+x:=by rw[zex]; rfl
def z0Z (b:List Int):Nat→Nat→Int→Int×Nat×Int
 | 0,p,_=>if p<b.length then(0,p+1,4) else(0,p,3)
 | k+1,p,n=>
   if p<b.length then
    if k=2∧b.getD p 0=128 then(0,p+1,4)
    else if b.getD p 0<128 then
     if 128*n+b.getD p 0%128<31 then(0,p+1,4) else(128*n+b.getD p 0%128,p+1,0)
    else z0Z b k (p+1) (128*n+b.getD p 0%128)
   else(0,p,3)
theorem zaA (b:List Int):∀(k p:Nat) (n:Int),p≤b.length→p≤(z0Z b k p n).2.1∧(z0Z b k p n).2.1≤b.length
 | 0,p,n,h=>by
   unfold z0Z
   split<;>dsimp only<;>omega
 | k+1,p,n,h=>by
   unfold z0Z
   split
   ·split
    ·dsimp only; omega
    ·split
     ·split<;>dsimp only<;>omega
     ·have:=zaA b k (p+1) (128*n+b.getD p 0%128) (by omega)
      omega
   ·dsimp only; omega
theorem zdc (b:List Int) (k p:Nat) (n:Int) (h:¬ p<b.length):z0Z b k p n=(0,p,3):=by
 cases k<;>simp only[z0Z,h,if_false]
abbrev z0h:Type:=Int×Int×Bool
def z2n:z0h:=(0,0,false)
def z0U {α:Type} (z:α) (p:Nat) (r:α×Nat×Int):α×Nat×Int:=if r.2.2=0 then r else(z,p,r.2.2)
theorem z34 {α:Type} (z:α) (p:Nat) (r:α×Nat×Int) (h:r.2.2=0):z0U z p r=r:=if_pos h
theorem z3k {α:Type} (z:α) (p:Nat) (r:α×Nat×Int) (h:¬ r.2.2=0):z0U z p r=(z,p,r.2.2):=if_neg h
theorem z52 {α:Type} (z:α) (p n:Nat) (r:α×Nat×Int) (h:p≤r.2.1∧r.2.1≤n):p≤(z0U z p r).2.1∧(z0U z p r).2.1≤n:=by
 unfold z0U
 split
 ·exact h
 ·dsimp only; omega
def z35 (b:List Int) (p:Nat):z0h×Nat×Int:=
 if p<b.length then
  if b.getD p 0%32=31 then((b.getD p 0/64,(z0Z b 3 (p+1) 0).1,decide (b.getD p 0/32%2=1)),(z0Z b 3 (p+1) 0).2.1,(z0Z b 3 (p+1) 0).2.2)
  else((b.getD p 0/64,b.getD p 0%32,decide (b.getD p 0/32%2=1)),p+1,0)
 else(z2n,p,3)
def z0P (b:List Int) (p:Nat):z0h×Nat×Int:=z0U z2n p (z35 b p)
theorem zey (b:List Int) (p:Nat) (h:p≤b.length):p≤(z35 b p).2.1∧(z35 b p).2.1≤b.length:=by
 have:=zaA b 3 (p+1) 0
 unfold z35
 split
 ·split
  ·dsimp only; omega
  ·dsimp only; omega
 ·dsimp only; omega
theorem z8I (b:List Int) (p:Nat) (h:p≤b.length):p≤(z0P b p).2.1∧(z0P b p).2.1≤b.length:=z52 _ _ _ _ (zey b p h)
def z2Q (b:List Int) (p n:Nat):Int×Nat×Int:=
 if b.length<p+n then(0,p,3)
 else if b.getD p 0=0∨z0F 0 ((b.drop p).take n)<128 then(0,p+n,5)
 else if 16777216<z0F 0 ((b.drop p).take n) then(0,p+n,2)
 else(z0F 0 ((b.drop p).take n),p+n,0)
def z3v (b:List Int) (p:Nat):Int×Nat×Int:=
 if p<b.length then
  if b.getD p 0<128 then(b.getD p 0,p+1,0)
  else if b.getD p 0=128∨132<b.getD p 0 then(0,p+1,5)
  else z2Q b (p+1) (b.getD p 0%128).toNat
 else(0,p,3)
def lenP (b:List Int) (p:Nat):Int×Nat×Int:=z0U 0 p (z3v b p)
theorem zjw (b:List Int) (p n:Nat) (h:p≤b.length):p≤(z2Q b p n).2.1∧(z2Q b p n).2.1≤b.length:=by
 unfold z2Q
 split
 ·dsimp only; omega
 ·split
  ·dsimp only; omega
  ·split<;>dsimp only<;>omega
theorem zez (b:List Int) (p:Nat) (h:p≤b.length):p≤(z3v b p).2.1∧(z3v b p).2.1≤b.length:=by
 unfold z3v
 split
 ·split
  ·dsimp only; omega
  ·split
   ·dsimp only; omega
   ·have:=zjw b (p+1) (b.getD p 0%128).toNat (by omega)
    omega
 ·dsimp only; omega
theorem zeA (b:List Int) (p:Nat) (h:p≤b.length):p≤(lenP b p).2.1∧(lenP b p).2.1≤b.length:=z52 _ _ _ _ (zez b p h)
def z36 (b:List Int) (p:Nat):(z0h×Int)×Nat×Int:=
 if(z0P b p).2.2=0 then(((z0P b p).1,(lenP b (z0P b p).2.1).1),(lenP b (z0P b p).2.1).2.1,(lenP b (z0P b p).2.1).2.2)
 else((z2n,0),p,(z0P b p).2.2)
def z0d (b:List Int) (p:Nat):(z0h×Int)×Nat×Int:=z0U (z2n,0) p (z36 b p)
theorem zeB (b:List Int) (p:Nat) (h:p≤b.length):p≤(z36 b p).2.1∧(z36 b p).2.1≤b.length:=by
 have h1:=z8I b p h
 have h2:=zeA b (z0P b p).2.1 h1.2
 unfold z36
 split
 ·dsimp only; omega
 ·dsimp only; omega
theorem z1k (b:List Int) (p:Nat) (h:p≤b.length):p≤(z0d b p).2.1∧(z0d b p).2.1≤b.length:=z52 _ _ _ _ (zeB b p h)
def z23 (b:List Int) (p:Nat) (t:z0h):List Int×Nat×Int:=
 if(z0d b p).2.2=0 then
  if(z0d b p).1.1=t then
   if(b.length:Int) -((z0d b p).2.1:Int)<(z0d b p).1.2 then([],(z0d b p).2.1,3)
   else((b.drop (z0d b p).2.1).take (z0d b p).1.2.toNat,(z0d b p).2.1+(z0d b p).1.2.toNat,0)
  else([],(z0d b p).2.1,4)
 else([],p,(z0d b p).2.2)
def z0r (b:List Int) (p:Nat) (t:z0h):List Int×Nat×Int:=z0U [] p (z23 b p t)
theorem zeC (b:List Int) (p:Nat) (t:z0h) (h:p≤b.length):p≤(z23 b p t).2.1∧(z23 b p t).2.1≤b.length:=by
 have h1:=z1k b p h
 unfold z23
 split
 ·split
  ·split<;>dsimp only<;>omega
  ·dsimp only; omega
 ·dsimp only; omega
theorem z24 (b:List Int) (p:Nat) (t:z0h) (h:p≤b.length):p≤(z0r b p t).2.1∧(z0r b p t).2.1≤b.length:=z52 _ _ _ _ (zeC b p t h)
theorem zjx (b:List Int) (p:Nat) (hw:∀ x ∈ b,0≤x∧x<256):0≤(lenP b p).1∧(lenP b p).1≤16777216:=by
 unfold lenP z0U
 split
 ·unfold z3v
  split
  ·rename_i h
   have hx:0≤b.getD p 0∧b.getD p 0<256:=by
    rw[List.getD_eq_getElem?_getD,List.getElem?_eq_getElem h]
    exact hw _ (List.getElem_mem h)
   split
   ·dsimp only; omega
   ·split
    ·dsimp only; omega
    ·unfold z2Q
     split
     ·dsimp only; omega
     ·split
      ·dsimp only; omega
      ·split<;>dsimp only<;>omega
  ·dsimp only; omega
 ·dsimp only; omega
theorem z2B (b:List Int) (p:Nat) (hw:∀ x ∈ b,0≤x∧x<256):0≤(z0d b p).1.2∧(z0d b p).1.2≤16777216:=by
 have:=zjx b (z0P b p).2.1 hw
 unfold z0d z0U
 split
 ·unfold z36
  split
  ·exact this
  ·dsimp only; omega
 ·dsimp only; omega
theorem z5E {l:List Int} (hw:WfB l) (p:Nat):0≤l.getD p 0∧l.getD p 0<256:=by
 by_cases h:p<l.length
 ·rw[List.getD_eq_getElem?_getD,List.getElem?_eq_getElem h]
  exact hw _ (List.getElem_mem h)
 ·rw[List.getD_eq_getElem?_getD,List.getElem?_eq_none (by omega)]
  exact⟨by decide,by decide⟩
theorem zdd {d:Int} (h:0≤d∧d<256):IntKind.u8.wrap (BitVec.ofInt IntKind.u8.bits d&&& BitVec.ofInt IntKind.u8.bits 127).toNat=d%128:=by
 have key:∀ k:Fin 256,IntKind.u8.wrap (BitVec.ofInt IntKind.u8.bits ((k.val:Nat):Int)&&& BitVec.ofInt IntKind.u8.bits 127).toNat=((k.val:Nat):Int)%128:=by decide+kernel
 have:=key ⟨d.toNat,by omega⟩
 simpa[show((d.toNat:Nat):Int)=d by omega] using this
theorem zrN {d:Int} (h:0≤d∧d<256):IntKind.u8.wrap (BitVec.ofInt IntKind.u8.bits d&&& BitVec.ofInt IntKind.u8.bits 31).toNat=d%32:=by
 have key:∀ k:Fin 256,IntKind.u8.wrap (BitVec.ofInt IntKind.u8.bits ((k.val:Nat):Int)&&& BitVec.ofInt IntKind.u8.bits 31).toNat=((k.val:Nat):Int)%32:=by decide+kernel
 have:=key ⟨d.toNat,by omega⟩
 simpa[show((d.toNat:Nat):Int)=d by omega] using this
theorem zpQ {d:Int} (h:0≤d∧d<256):(IntKind.u8.wrap (BitVec.ofInt IntKind.u8.bits d&&& BitVec.ofInt IntKind.u8.bits 32).toNat !=0)=decide (d/32%2=1):=by
 have key:∀ k:Fin 256,(IntKind.u8.wrap (BitVec.ofInt IntKind.u8.bits ((k.val:Nat):Int)&&& BitVec.ofInt IntKind.u8.bits 32).toNat !=0)=decide (((k.val:Nat):Int)/32%2=1):=by decide+kernel
 have:=key ⟨d.toNat,by omega⟩
 simpa[show((d.toNat:Nat):Int)=d by omega] using this
theorem zhr (s:Nat) (hs:s≤8) (c x:Int) (hc:0≤c∧c<1099511627776) (hx:0≤x∧x<2^s):IntKind.i64.wrap (BitVec.ofInt IntKind.i64.bits (2^s*c)||| BitVec.ofInt IntKind.i64.bits x).toNat=2^s*c+x:=by
 obtain⟨c,rfl⟩:∃ m:Nat,c=m:=⟨c.toNat,by omega⟩
 obtain⟨x,rfl⟩:∃ m:Nat,x=m:=⟨x.toNat,by omega⟩
 have hp:(2:Nat)^s≤256:=Nat.pow_le_pow_right (by decide) hs
 have hx2:x<2^s:=by
  have h2:((2^s:Nat):Int)=(2:Int)^s:=by simp
  have:=hx.2
  rw[←h2] at this
  omega
 have h1:2^s*c+x=2^s*c||| x:=Nat.two_pow_add_eq_or_of_lt (i:=s) hx2 c
 have hb:2^s*c≤256*c:=Nat.mul_le_mul_right c hp
 have e0:(2:Int)^s*(c:Int)=((2^s*c:Nat):Int):=by simp
 rw[e0]
 generalize 2^s*c=m at*
 have e1:(BitVec.ofInt IntKind.i64.bits (m:Int)).toNat=m:=by
  rw[BitVec.toNat_ofInt]; simp only[IntKind.bits]; omega
 have e2:(BitVec.ofInt IntKind.i64.bits (x:Int)).toNat=x:=by
  rw[BitVec.toNat_ofInt]; simp only[IntKind.bits]; omega
 rw[BitVec.toNat_or,e1,e2,←h1]
 simp only[IntKind.wrap,IntKind.signed,IntKind.bits]
 simp
 omega
theorem or7 (c x:Int) (hc:0≤c∧c<1099511627776) (hx:0≤x∧x<128):IntKind.i64.wrap (BitVec.ofInt IntKind.i64.bits (c*2^min (Int.toNat 7) IntKind.i64.bits)||| BitVec.ofInt IntKind.i64.bits x).toNat=128*c+x:=by
 have e:c*2^min (Int.toNat 7) IntKind.i64.bits=2^7*c:=by
  have:min (Int.toNat 7) IntKind.i64.bits=7:=by decide
  rw[this,Int.mul_comm]
 rw[e]
 exact zhr 7 (by decide) c x hc hx
theorem zxL (c x:Int) (hc:0≤c∧c<1099511627776) (hx:0≤x∧x<256):IntKind.i64.wrap (BitVec.ofInt IntKind.i64.bits (c*2^min (Int.toNat 8) IntKind.i64.bits)||| BitVec.ofInt IntKind.i64.bits x).toNat=256*c+x:=by
 have e:c*2^min (Int.toNat 8) IntKind.i64.bits=2^8*c:=by
  have:min (Int.toNat 8) IntKind.i64.bits=8:=by decide
  rw[this,Int.mul_comm]
 rw[e]
 exact zhr 8 (by decide) c x hc hx
theorem z6n (b:List Int) (i p:Nat) (n:Int) (hi:i<3) (hp:p<b.length):z0Z b (3 -i) p n=if i=0∧b.getD p 0=128 then(0,p+1,4) else if b.getD p 0<128 then
   if 128*n+b.getD p 0%128<31 then(0,p+1,4) else(128*n+b.getD p 0%128,p+1,0)
  else z0Z b (3 -(i+1)) (p+1) (128*n+b.getD p 0%128):=by
 have e:3 -i=(2 -i)+1:=by omega
 have e2:3 -(i+1)=2 -i:=by omega
 have e3:(2 -i=2)↔i=0:=by omega
 rw[e,e2]
 simp only[z0Z,hp,if_true,e3]
abbrev zde (r:Int×Nat×Int):Av:= .tup [lv (.int .i64 r.1),lv (.int .i64 r.2.2)]
structure NS where
 i:Nat
 p:Nat
 n:Int
def NS.ok (l:List Int) (p:Nat) (s:NS):Prop:=s.i≤3∧s.p≤l.length∧z0Z l (3 -s.i) s.p s.n=z0Z l 3 p 0∧0≤s.n∧(s.i=0∧s.n<1∨s.i=1∧s.n<128∨s.i=2∧s.n<16384∨s.i=3∧s.n<2097152)
set_option maxHeartbeats 4000000 in
theorem zhs (l:List Int) (p:Nat) (hp:p≤l.length) (hl:l.length≤16000000) (hw:WfB l):Ct Tryz.prog 202 [.c (.ptr 0 0)] [z04 l p] (zde (z0Z l 3 p 0)) [z04 l (z0Z l 3 p 0).2.1] []:=by
 have h0:NS.ok l p ⟨0,p,0⟩:=⟨by simp,hp,rfl,by simp,by simp⟩
 refine z00 Tryz.func202 rfl rfl rfl rfl rfl (fun E hn hb=>?_)
 repeat (refine nst ?_)
 refine z09 (St.le_of (l:= [(0,.c (.ptr 0 0)),(4,lv (.int .i64 0)),(8,lv (.int .i64 ((0:Nat):Int)))]) (h:= [(0,z04 l p)]) (by refine⟨?_,?_⟩<;>(repeat' (first | exact trivial | exact rfl | refine⟨?_,?_⟩))<;>first | exact rfl |(simp; done) | skip)) ?_
 refine z0k (ι:= {s:NS//s.ok l p}) (fun s=>St.of [(0,.c (.ptr 0 0)),(4,lv (.int .i64 s.1.n)),(8,lv (.int .i64 (s.1.i:Int)))] [(0,z04 l s.1.p)]) (fun s=>3 -s.1.i) (fun s=>?_) ⟨⟨0,p,0⟩,h0⟩
 obtain⟨⟨i,q,n⟩,hi,hq,hR,hn0,hn1⟩:=s
 dsimp only at hi hq hR hn0 hn1 ⊢
 generalize hRR:z0Z l 3 p 0=R at hR ⊢
 repeat (refine nst ?_)
 refine z06 rfl (by simp) (fun hc=>?_) (fun hc=>?_)
 ·repeat (refine nst ?_)
  by_cases hqe:q<l.length
  ·have hd:=z5E hw q
   have hby:=z8h l q hqe hl
   refine z0w [0] hby rfl rfl (by rw[hn]; rfl) rfl rfl (by trivial) ⟨rfl,rfl,(by simp[z0b]),rfl⟩ ?_
   repeat (refine nst ?_)
   refine z06 rfl (by simp) (fun h1=>?_) (fun h1=>?_)
   ·simp at h1
   repeat (refine nst ?_)
   generalize hdd:l.getD q 0=d at*
   refine z06 rfl (by simp) (fun h2=>?_) (fun h2=>?_)
   ·have h2':i=0∧d=128:=by
     simpa using h2
    rw[z6n l i q n (by omega) hqe,hdd,if_pos h2'] at hR
    subst hR
    repeat (refine nst ?_)
    refine z06 rfl (by simp) (fun h3=>?_) (fun h3=>?_)
    ·repeat (refine nst ?_)
     exact rt1 []
    ·exact absurd (h2.symm.trans h3) (by decide)
   ·have h2':¬ (i=0∧d=128):=by
     rintro⟨rfl,rfl⟩
     simp at h2
    clear h2
    repeat (refine nst ?_)
    refine z06 rfl (by simp) (fun h3=>?_) (fun h3=>?_)
    ·have h3':i=3:=by simp at h3; omega
     subst h3'
     simp only[Nat.sub_self,z0Z,hqe,if_true] at hR
     subst hR
     repeat (refine nst ?_)
     exact rt1 []
    ·have h3':i<3:=by simp at h3; omega
     rw[z6n l i q n h3' hqe,hdd,if_neg h2'] at hR
     have ha:=zdd hd
     have ho:=or7 n (d%128) ⟨hn0,by omega⟩ (by omega)
     repeat (refine nst ?_)
     rw[ha,ho]
     generalize hmm:128*n+d%128=m at*
     refine z06 rfl (by simp) (fun h4=>?_) (fun h4=>?_)
     ·have h4':d<128:=by simpa using h4
      rw[if_pos h4'] at hR
      repeat (refine nst ?_)
      refine z06 rfl (by simp) (fun h5=>?_) (fun h5=>?_)
      ·have h5':m<31:=by simpa using h5
       rw[if_pos h5'] at hR
       subst hR
       repeat (refine nst ?_)
       exact rt1 []
      ·have h5':¬ m<31:=by simpa using h5
       rw[if_neg h5'] at hR
       subst hR
       repeat (refine nst ?_)
       exact rt1 []
     ·have h4':¬ d<128:=by simpa using h4
      rw[if_neg h4'] at hR
      repeat (refine nst ?_)
      refine z08 ⟨⟨i+1,q+1,m⟩,⟨by dsimp only; omega,by dsimp only; omega,hR.trans hRR.symm,by dsimp only; omega,by dsimp only; omega⟩⟩ (by dsimp only; omega) (St.le_of ⟨⟨rfl,rfl,rfl⟩,rfl⟩)
  ·have e:q=l.length:=by omega
   subst e
   rw[zdc l _ _ _ hqe] at hR
   subst hR
   have hby:=z6P l hl
   refine z0w [0] hby rfl rfl (by rw[hn]; rfl) rfl rfl (by trivial) ⟨rfl,rfl,(by simp[z0b]),rfl⟩ ?_
   repeat (refine nst ?_)
   refine z06 rfl (by simp) (fun h1=>?_) (fun h1=>?_)
   ·repeat (refine nst ?_)
    exact rt1 []
   ·simp at h1
 ·simp at hc; omega
abbrev z2c (t:z0h):Av:= .agg [.lf (.v (.int .i64 t.1)),.lf (.v (.int .i64 t.2.1)),.lf (.v (.bool t.2.2))]
abbrev zaB (t:z0h) (e:Int):Av:= .tup [z2c t,lv (.int .i64 e)]
abbrev z1c:Blk:= .cells [.ptr 0 0]
theorem zjy (g:FuncId) (l:List Int) (p q:Nat) (t:z0h) (hg:Ct Tryz.prog g [.c (.ptr 1 0)] [z04 l p,z1c] (zaB t 0) [z04 l q,z1c] []):
  Ct Tryz.prog 199 [.c (.ptr 0 0),.c (.fn (.func g) [] [.ptr 1 0])] [z04 l p,z1c] (zaB t 0) [z04 l q,z1c] []:=by
 refine z00 Tryz.func199 rfl rfl rfl rfl rfl (fun E hn hb=>?_)
 repeat (refine nst ?_)
 refine z0E rfl rfl rfl (by rw[hn]; rfl) rfl z3U ?_
 repeat (refine nst ?_)
 refine z1b (z0L (z1J (z1z l p) rfl rfl rfl (by exact vcs) ⟨.inr (.inr ⟨0,0,_,_,rfl,rfl,rfl,rfl⟩),trivial⟩ rfl) rfl) (by rw[hn]; rfl) ?_
 repeat (refine nst ?_)
 refine z0w [0,1] hg rfl rfl (by rw[hn]; rfl) rfl rfl (by trivial) ⟨rfl,⟨rfl,rfl⟩,(by simp[z0b]),rfl⟩ ?_
 repeat (refine nst ?_)
 refine z0E rfl rfl rfl (by rw[hn]; rfl) rfl z3U ?_
 repeat (refine nst ?_)
 refine z0m rfl rfl rfl rfl rfl (by exact vcs) rfl rfl rfl (by rw[z1f]; rfl) (by rw[z2G]; rfl) rfl rfl ?_
 repeat (refine nst ?_)
 refine z06 rfl (by simp) (fun h1=>?_) (fun h1=>?_)
 ·simp at h1
 repeat (refine nst ?_)
 refine z0m rfl rfl rfl rfl rfl (by exact vcs) rfl rfl rfl (by rw[z1f]; rfl) (by rw[z2G]; rfl) rfl rfl ?_
 repeat (refine nst ?_)
 exact rt1 []
theorem zht (g:FuncId) (l:List Int) (p q:Nat) (t:z0h) (e:Int) (he:e≠0) (hq:p≤q) (hl:q≤16000000) (hg:Ct Tryz.prog g [.c (.ptr 1 0)] [z04 l p,z1c] (zaB t e) [z04 l q,z1c] []):
  Ct Tryz.prog 199 [.c (.ptr 0 0),.c (.fn (.func g) [] [.ptr 1 0])] [z04 l p,z1c] (zaB z2n e) [z04 l p,z1c] []:=by
 have hbk:=z1L l q p hq hl
 refine z00 Tryz.func199 rfl rfl rfl rfl rfl (fun E hn hb=>?_)
 repeat (refine nst ?_)
 refine z0E rfl rfl rfl (by rw[hn]; rfl) rfl z3U ?_
 repeat (refine nst ?_)
 refine z1b (z0L (z1J (z1z l p) rfl rfl rfl (by exact vcs) ⟨.inr (.inr ⟨0,0,_,_,rfl,rfl,rfl,rfl⟩),trivial⟩ rfl) rfl) (by rw[hn]; rfl) ?_
 repeat (refine nst ?_)
 refine z0w [0,1] hg rfl rfl (by rw[hn]; rfl) rfl rfl (by trivial) ⟨rfl,⟨rfl,rfl⟩,(by simp[z0b]),rfl⟩ ?_
 repeat (refine nst ?_)
 refine z0E rfl rfl rfl (by rw[hn]; rfl) rfl z3U ?_
 repeat (refine nst ?_)
 refine z0m rfl rfl rfl rfl rfl (by exact vcs) rfl rfl rfl (by rw[z1f]; rfl) (by rw[z2G]; rfl) rfl rfl ?_
 repeat (refine nst ?_)
 refine z06 rfl (by simp) (fun h1=>?_) (fun h1=>?_)
 ·repeat (refine nst ?_)
  refine z0E rfl rfl rfl (by rw[hn]; rfl) rfl z3U ?_
  repeat (refine nst ?_)
  refine z0w [0] hbk rfl rfl (by rw[hn]; rfl) rfl rfl (by trivial) ⟨rfl,rfl,(by simp[z0b]),rfl⟩ ?_
  repeat (refine nst ?_)
  refine z0m rfl rfl rfl rfl rfl (by exact vcs) rfl rfl rfl (by rw[z1f]; rfl) (by rw[z2G]; rfl) rfl rfl ?_
  repeat (refine nst ?_)
  exact rt1 []
 ·simp[he] at h1
theorem zla (l:List Int) (p:Nat) (hp:p≤l.length) (hl:l.length≤16000000) (hw:WfB l):Ct Tryz.prog 200 [.c (.ptr 1 0)] [z04 l p,z1c] (zaB (z35 l p).1 (z35 l p).2.2) [z04 l (z35 l p).2.1,z1c] []:=by
 generalize hRR:z35 l p=R
 unfold z35 at hRR
 refine z00 Tryz.func200 rfl rfl rfl rfl rfl (fun E hn hb=>?_)
 repeat (refine nst ?_)
 refine z0E rfl rfl rfl (by rw[hn]; rfl) rfl z3U ?_
 repeat (refine nst ?_)
 by_cases hpe:p<l.length
 ·rw[if_pos hpe] at hRR
  have hd:=z5E hw p
  have hby:=z8h l p hpe hl
  have hnm:=zhs l (p+1) (by omega) hl hw
  generalize l.getD p 0=d at*
  have ha:=zrN hd
  have hab:=zpQ hd
  have e6:d/2^min (Int.toNat 6) IntKind.u8.bits=d/64:=by
   have:min (Int.toNat 6) IntKind.u8.bits=6:=by decide
   rw[this]; rfl
  refine z0w [0] hby rfl rfl (by rw[hn]; rfl) rfl rfl (by trivial) ⟨rfl,rfl,(by simp[z0b]),rfl⟩ ?_
  repeat (refine nst ?_)
  refine z06 rfl (by simp) (fun h1=>?_) (fun h1=>?_)
  ·simp at h1
  repeat (refine nst ?_)
  refine z0E rfl rfl rfl (by rw[hn]; rfl) rfl z3U ?_
  repeat (refine nst ?_)
  refine z0m rfl rfl rfl rfl rfl (by exact vcs) rfl rfl rfl (by rw[z1f]; rfl) (by rw[z2G]; rfl) rfl rfl ?_
  repeat (refine nst ?_)
  rw[ha,hab,e6]
  generalize z0Z l 3 (p+1) 0=N at*
  generalize decide (d/32%2=1)=mk at*
  refine z06 rfl (by simp) (fun h2=>?_) (fun h2=>?_)
  ·have h2':d%32=31:=by simpa using h2
   rw[if_pos h2'] at hRR
   subst hRR
   repeat (refine nst ?_)
   refine z0w [0] hnm rfl rfl (by rw[hn]; rfl) rfl rfl (by trivial) ⟨rfl,rfl,(by simp[z0b]),rfl⟩ ?_
   repeat (refine nst ?_)
   refine z0m rfl rfl rfl rfl rfl (by exact vcs) rfl rfl rfl (by rw[z3T]; rfl) (by rw[z7z]; rfl) rfl rfl ?_
   repeat (refine nst ?_)
   refine z0m rfl rfl rfl rfl rfl (by exact vcs) rfl rfl rfl (by rw[z1f]; rfl) (by rw[z2G]; rfl) rfl rfl ?_
   repeat (refine nst ?_)
   exact rt1 []
  ·have h2':¬ d%32=31:=by simpa using h2
   rw[if_neg h2'] at hRR
   subst hRR
   repeat (refine nst ?_)
   refine z0m rfl rfl rfl rfl rfl (by exact vcs) rfl rfl rfl (by rw[z1f]; rfl) (by rw[z2G]; rfl) rfl rfl ?_
   repeat (refine nst ?_)
   exact rt1 []
 ·rw[if_neg hpe] at hRR
  subst hRR
  have e:p=l.length:=by omega
  subst e
  have hby:=z6P l hl
  refine z0w [0] hby rfl rfl (by rw[hn]; rfl) rfl rfl (by trivial) ⟨rfl,rfl,(by simp[z0b]),rfl⟩ ?_
  repeat (refine nst ?_)
  refine z06 rfl (by simp) (fun h1=>?_) (fun h1=>?_)
  ·repeat (refine nst ?_)
   refine z0m rfl rfl rfl rfl rfl (by exact vcs) rfl rfl rfl (by rw[z1f]; rfl) (by rw[z2G]; rfl) rfl rfl ?_
   repeat (refine nst ?_)
   exact rt1 []
  ·simp at h1
theorem zfR (l:List Int) (p:Nat) (hp:p≤l.length) (hl:l.length≤16000000) (hw:WfB l):Ct Tryz.prog 175 [.c (.ptr 0 0)] [z04 l p] (zaB (z0P l p).1 (z0P l p).2.2) [z04 l (z0P l p).2.1] []:=by
 have hr:=zla l p hp hl hw
 have hle:=zey l p hp
 generalize hRR:z0P l p=R
 unfold z0P at hRR
 by_cases he:(z35 l p).2.2=0
 ·rw[z34 _ _ _ he] at hRR
  rw[hRR] at hr he hle
  rw[he] at hr
  have hk:=zjy 200 l p R.2.1 R.1 hr
  rw[he]
  refine z00 Tryz.func175 rfl rfl rfl rfl rfl (fun E hn hb=>?_)
  repeat (refine nst ?_)
  refine z1v rfl rfl rfl (by rw[hn]; rfl) rfl (by exact vcs) rfl rfl ?_
  repeat (refine nst ?_)
  refine z0E rfl rfl rfl (by rw[hn]; rfl) rfl z3U ?_
  repeat (refine nst ?_)
  refine z0w [0,65] hk rfl rfl (by rw[hn]; rfl) rfl rfl (by trivial) ⟨rfl,⟨rfl,rfl⟩,(by simp[z0b]),rfl⟩ ?_
  repeat (refine nst ?_)
  refine z0m rfl rfl rfl rfl rfl (by exact vcs) rfl rfl rfl (by rw[z1f]; rfl) (by rw[z2G]; rfl) rfl rfl ?_
  repeat (refine nst ?_)
  exact rt1 []
 ·rw[z3k _ _ _ he] at hRR
  subst hRR
  generalize z35 l p=R at*
  have hk:=zht 200 l p R.2.1 R.1 R.2.2 he hle.1 (by omega) hr
  refine z00 Tryz.func175 rfl rfl rfl rfl rfl (fun E hn hb=>?_)
  repeat (refine nst ?_)
  refine z1v rfl rfl rfl (by rw[hn]; rfl) rfl (by exact vcs) rfl rfl ?_
  repeat (refine nst ?_)
  refine z0E rfl rfl rfl (by rw[hn]; rfl) rfl z3U ?_
  repeat (refine nst ?_)
  refine z0w [0,65] hk rfl rfl (by rw[hn]; rfl) rfl rfl (by trivial) ⟨rfl,⟨rfl,rfl⟩,(by simp[z0b]),rfl⟩ ?_
  repeat (refine nst ?_)
  refine z0m rfl rfl rfl rfl rfl (by exact vcs) rfl rfl rfl (by rw[z1f]; rfl) (by rw[z2G]; rfl) rfl rfl ?_
  repeat (refine nst ?_)
  exact rt1 []
end Go.Proofs.YtaagjnlkinojcaaGreat

/-
  Bit strings: those of contents, and the next one at a cursor. The conditions: rows of bytes that a machine can hold.
-/
import Derived.Test.YtaagjnlkinojcaaGreatC12
import Derived.Test.YtaagjnlkinojcaaGreatD15
import Derived.Test.YtaagjnlkinojcaaGreatB4
import Derived.Test.YtaagjnlkinojcaaGreatB16
import Derived.Test.YtaagjnlkinojcaaGreatW10
import Derived.Test.YtaagjnlkinojcaaGreatSxP
import Derived.Test.YtaagjnlkinojcaaGreatC8
import Derived.Test.YtaagjnlkinojcaaGreatSxQ
namespace Go.Proofs.YtaagjnlkinojcaaGreat
set_option linter.unusedSimpArgs false
set_option linter.unusedVariables false
open Go.Sx
set_option maxRecDepth 10000
def shP {α:Type} (k:Nat) (r:α×Nat×Int):α×Nat×Int:=(r.1,k+r.2.1,r.2.2)
theorem z9l {α:Type} (z:α) (k p:Nat) (r:α×Nat×Int):z0M z (k+p) (shP k r)=shP k (z0M z p r):=by
 unfold z0M shP
 dsimp only
 split<;>rfl
theorem z8E (b:List Int) (k p:Nat):(b.drop k).getD p 0=b.getD (k+p) 0:=by
 rw[List.getD_eq_getElem?_getD,List.getD_eq_getElem?_getD,List.getElem?_drop]
theorem zbS (b:List Int) (k p:Nat):p<(b.drop k).length↔k+p<b.length:=by simp; omega
theorem zrl (b:List Int) (k p:Nat) (hk:k≤b.length):(b.drop k).length<p↔b.length<k+p:=by simp; omega
theorem zee (b:List Int) (k:Nat):∀(f p:Nat) (n:Int),z10 b f (k+p) n=shP k (z10 (b.drop k) f p n)
 | 0,p,n=>by
   unfold z10
   simp only[zbS]
   split<;>rfl
 | f+1,p,n=>by
   have ih:=zee b k f (p+1) (128*n+b.getD (k+p) 0%128)
   unfold z10
   simp only[zbS,z8E]
   split
   ·split
    ·rfl
    ·split
     ·split<;>rfl
     ·exact ih
   ·rfl
theorem zkN (b:List Int) (k p:Nat):z0S b (k+p)=shP k (z0S (b.drop k) p):=by
 have hn:z10 b 3 (k+p+1) 0=shP k (z10 (b.drop k) 3 (p+1) 0):=zee b k 3 (p+1) 0
 have hr:z32 b (k+p)=shP k (z32 (b.drop k) p):=by
  unfold z32
  simp only[zbS,z8E,hn]
  split
  ·split<;>rfl
  ·rfl
 unfold z0S
 rw[hr,z9l]
theorem zj1 (b:List Int) (k p n:Nat) (hk:k≤b.length):z2P b (k+p) n=shP k (z2P (b.drop k) p n):=by
 unfold z2P
 simp only[zrl b k _ hk,z8E,List.drop_drop,Nat.add_assoc]
 repeat' split
 all_goals simp[shP,Nat.add_assoc]
theorem zkO (b:List Int) (k p:Nat) (hk:k≤b.length):lenP b (k+p)=shP k (lenP (b.drop k) p):=by
 have hl:∀ n,z2P b (k+p+1) n=shP k (z2P (b.drop k) (p+1) n):=fun n=>zj1 b k (p+1) n hk
 have hr:z3w b (k+p)=shP k (z3w (b.drop k) p):=by
  unfold z3w
  simp only[zbS,z8E,hl]
  repeat' split
  all_goals rfl
 unfold lenP
 rw[hr,z9l]
theorem zj2 (b:List Int) (k p:Nat) (hk:k≤b.length):z0a b (k+p)=shP k (z0a (b.drop k) p):=by
 have ht:=zkN b k p
 have hr:z33 b (k+p)=shP k (z33 (b.drop k) p):=by
  unfold z33
  rw[ht]
  have hl:=zkO b k (z0S (b.drop k) p).2.1 hk
  unfold shP at hl ⊢
  dsimp only
  rw[hl]
  split<;>rfl
 unfold z0a
 rw[hr,z9l]
theorem zfB (x:List Int) (p:Nat) (hp:p<x.length) (h0:(z0a x p).2.2=0) (h1:(z0a x p).1.2=(x.length:Int) -((z0a x p).2.1:Int)):z12 (x.drop p) 0=([x.drop p],0):=by
 have hle:=z17 x p (by omega)
 have hs:=zj2 x p 0 (by omega)
 rw[Nat.add_zero] at hs
 rw[hs] at h0 h1 hle
 generalize hr:z0a (x.drop p) 0=R at*
 obtain⟨⟨t,n⟩,q,e⟩:=R
 unfold shP at*
 dsimp only at*
 subst h0
 have hlen:(x.drop p).length=x.length -p:=by simp
 have hone:z13 (x.drop p) 0=(x.drop p,t,((x.drop p).drop q).take n.toNat,0,x.length -p):=by
  unfold z13
  rw[hr]
  dsimp only
  rw[if_neg (by simp),if_neg (by rw[hlen]; omega),List.drop_zero,List.take_of_length_le (by rw[hlen]; omega),show q+n.toNat=x.length -p by omega]
 unfold z12
 rw[hlen,show x.length -p+1=(x.length -p -1)+1+1 by omega,z11,if_neg (by rw[hlen]; omega),hone]
 dsimp only
 rw[if_neg (by simp),z11,if_pos (by rw[hlen]; omega)]
 rfl
theorem zj3 {l:List Int} {p q:Nat} {N:Int} (hw:WfB l) (h:z10 l 3 p 0=(N,q,0)):31≤N∧N<2097152∧l.drop p=z4X N++l.drop q:=by
 have w1:=z4E hw p
 have w2:=z4E hw (p+1)
 have w3:=z4E hw (p+1+1)
 have e1:=z25 l p
 have e2:=z25 l (p+1)
 have e3:=z25 l (p+1+1)
 rw[z10] at h
 generalize l.getD p 0=d1 at*
 by_cases h1:p<l.length
 ·rw[if_pos h1] at h
  by_cases c1:2=2∧d1=128
  ·rw[if_pos c1] at h; simp at h
  ·rw[if_neg c1] at h
   by_cases c2:d1<128
   ·rw[if_pos c2] at h
    by_cases c3:128*0+d1%128<31
    ·rw[if_pos c3] at h; simp at h
    ·rw[if_neg c3] at h
     simp only[Prod.mk.injEq] at h
     obtain⟨rfl,rfl,_⟩:=h
     refine⟨by omega,by omega,?_⟩
     unfold z4X
     rw[if_neg (by omega),if_neg (by omega),e1 h1,show(128*0+d1%128)%128=d1 by omega]
     rfl
   ·rw[if_neg c2] at h
    rw[z10] at h
    generalize l.getD (p+1) 0=d2 at*
    by_cases h2:p+1<l.length
    ·rw[if_pos h2,if_neg (by omega)] at h
     by_cases c4:d2<128
     ·rw[if_pos c4] at h
      by_cases c5:128*(128*0+d1%128)+d2%128<31
      ·rw[if_pos c5] at h; simp at h
      ·rw[if_neg c5] at h
       simp only[Prod.mk.injEq] at h
       obtain⟨rfl,rfl,_⟩:=h
       refine⟨by omega,by omega,?_⟩
       have hN:128*(128*0+d1%128)+d2%128=128*(d1 -128)+d2:=by omega
       rw[hN]
       unfold z4X
       rw[if_neg (by omega),if_pos (by omega),e1 h1,e2 h2,show 128+(128*(d1 -128)+d2)/128%128=d1 by omega,show(128*(d1 -128)+d2)%128=d2 by omega]
       rfl
     ·rw[if_neg c4] at h
      rw[z10] at h
      generalize l.getD (p+1+1) 0=d3 at*
      by_cases h3:p+1+1<l.length
      ·rw[if_pos h3,if_neg (by omega)] at h
       by_cases c6:d3<128
       ·rw[if_pos c6] at h
        by_cases c7:128*(128*(128*0+d1%128)+d2%128)+d3%128<31
        ·rw[if_pos c7] at h; simp at h
        ·rw[if_neg c7] at h
         simp only[Prod.mk.injEq] at h
         obtain⟨rfl,rfl,_⟩:=h
         refine⟨by omega,by omega,?_⟩
         have hN:128*(128*(128*0+d1%128)+d2%128)+d3%128=16384*(d1 -128)+128*(d2 -128)+d3:=by omega
         rw[hN]
         unfold z4X
         rw[if_pos (by omega),if_pos (by omega),e1 h1,e2 h2,e3 h3,show 128+(16384*(d1 -128)+128*(d2 -128)+d3)/16384=d1 by omega,show 128+(16384*(d1 -128)+128*(d2 -128)+d3)/128%128=d2 by omega,show(16384*(d1 -128)+128*(d2 -128)+d3)%128=d3 by omega]
         rfl
       ·rw[if_neg c6] at h
        rw[z10] at h
        split at h<;>simp at h
      ·rw[if_neg h3] at h; simp at h
    ·rw[if_neg h2] at h; simp at h
 ·rw[if_neg h1] at h; simp at h
theorem zj4 {l:List Int} {p q:Nat} {t:z0g} (hw:WfB l) (h:z0S l p=(t,q,0)):z0q t=true∧l.drop p=tgL t++l.drop q:=by
 have hr:z32 l p=(t,q,0):=by
  unfold z0S z0M at h
  split at h
  ·exact h
  ·rename_i h1
   simp only[Prod.mk.injEq] at h
   exact absurd h.2.2 h1
 have w1:=z4E hw p
 have e1:=z25 l p
 unfold z32 at hr
 generalize l.getD p 0=c at*
 by_cases hp:p<l.length
 ·rw[if_pos hp] at hr
  have hfi:∀ n:Int,z1h (c/64,n,decide (c/32%2=1))=64*(c/64)+32*(c/32%2):=by
   intro n
   unfold z1h
   dsimp only
   by_cases hb:c/32%2=1
   ·rw[decide_eq_true hb,hb]; rfl
   ·rw[decide_eq_false hb]
    have:c/32%2=0:=by omega
    rw[this]; rfl
  by_cases h31:c%32=31
  ·rw[if_pos h31] at hr
   generalize hn:z10 l 3 (p+1) 0=R at*
   obtain⟨N,q2,e⟩:=R
   simp only[Prod.mk.injEq] at hr
   obtain⟨rfl,rfl,rfl⟩:=hr
   obtain⟨n1,n2,n3⟩:=zj3 hw hn
   refine⟨by simp[z0q]; omega,?_⟩
   have hR:=zaL N.toNat (by omega) (by omega)
   rw[show((N.toNat:Nat):Int)=N by omega] at hR
   unfold tgL
   dsimp only
   rw[if_neg (by omega),hfi,←hR,e1 hp,n3]
   have:64*(c/64)+32*(c/32%2)+31=c:=by omega
   rw[this]
   rfl
  ·rw[if_neg h31] at hr
   simp only[Prod.mk.injEq] at hr
   obtain⟨rfl,rfl,_⟩:=hr
   refine⟨by simp[z0q]; omega,?_⟩
   unfold tgL
   dsimp only
   rw[if_pos (by omega),hfi,e1 hp]
   have:64*(c/64)+32*(c/32%2)+c%32=c:=by omega
   rw[this]
   rfl
 ·rw[if_neg hp] at hr; simp at hr
theorem zj5 {l:List Int} {p q:Nat} {n:Int} (hw:WfB l) (h:lenP l p=(n,q,0)):0≤n∧n≤16777216∧l.drop p=z0I n.toNat++l.drop q:=by
 have hr:z3w l p=(n,q,0):=by
  unfold lenP z0M at h
  split at h
  ·exact h
  ·rename_i h1
   simp only[Prod.mk.injEq] at h
   exact absurd h.2.2 h1
 have w0:=z4E hw p
 have w1:=z4E hw (p+1)
 have w2:=z4E hw (p+1+1)
 have w3:=z4E hw (p+1+1+1)
 have w4:=z4E hw (p+1+1+1+1)
 have e0:=z25 l p
 have e1:=z25 l (p+1)
 have e2:=z25 l (p+1+1)
 have e3:=z25 l (p+1+1+1)
 have e4:=z25 l (p+1+1+1+1)
 unfold z3w at hr
 by_cases hp:p<l.length
 ·rw[if_pos hp] at hr
  generalize l.getD p 0=c at*
  by_cases h1:c<128
  ·rw[if_pos h1] at hr
   simp only[Prod.mk.injEq] at hr
   obtain⟨rfl,rfl,_⟩:=hr
   refine⟨by omega,by omega,?_⟩
   unfold z0I
   rw[if_pos (by omega),e0 hp,show((c.toNat:Nat):Int)=c by omega]
   rfl
  ·rw[if_neg h1] at hr
   by_cases h2:c=128∨132<c
   ·rw[if_pos h2] at hr; simp at hr
   ·rw[if_neg h2] at hr
    unfold z2P at hr
    by_cases h3:l.length<p+1+(c%128).toNat
    ·rw[if_pos h3] at hr; simp at hr
    ·rw[if_neg h3] at hr
     generalize l.getD (p+1) 0=d1 at*
     generalize l.getD (p+1+1) 0=d2 at*
     generalize l.getD (p+1+1+1) 0=d3 at*
     generalize l.getD (p+1+1+1+1) 0=d4 at*
     have hc:c=129∨c=130∨c=131∨c=132:=by omega
     have fin:∀(k:Nat) (D:List Int),l.drop (p+1)=D++l.drop (p+1+k)→D.length=k→(c%128).toNat=k→(0≤z0G 0 D)→(128≤z0G 0 D→z0G 0 D≤16777216→d1≠0→z2B (z0G 0 D)=c::D)→0≤n∧n≤16777216∧l.drop p=z0I n.toNat++l.drop q:=by
      intro k D hD hk hck h0 href
      rw[hck,show(l.drop (p+1)).take k=D by rw[hD,←hk,List.take_left]] at hr
      by_cases h4:d1=0∨z0G 0 D<128
      ·rw[if_pos h4] at hr; simp at hr
      ·rw[if_neg h4] at hr
       by_cases h5:16777216<z0G 0 D
       ·rw[if_pos h5] at hr; simp at hr
       ·rw[if_neg h5] at hr
        simp only[Prod.mk.injEq] at hr
        obtain⟨rfl,rfl,_⟩:=hr
        refine⟨h0,by omega,?_⟩
        rw[←z8a _ (by omega),show(((z0G 0 D).toNat:Nat):Int)=z0G 0 D by omega,href (by omega) (by omega) (by omega),e0 hp,hD]
        rfl
     rcases hc with rfl | rfl | rfl | rfl
     ·have q1:p+1<l.length:=by omega
      refine fin 1 [d1] (by rw[e1 q1]; rfl) rfl (by decide) (by simp[z0G]; omega) (fun a1 a2 a3=>?_)
      simp only[z0G] at a1 a2 ⊢
      unfold z2B
      rw[if_neg (by omega),if_pos (by omega)]
      simp
     ·have q1:p+1<l.length:=by omega
      have q2:p+1+1<l.length:=by omega
      refine fin 2 [d1,d2] (by rw[e1 q1,e2 q2]; rfl) rfl (by decide) (by simp[z0G]; omega) (fun a1 a2 a3=>?_)
      simp only[z0G] at a1 a2 ⊢
      unfold z2B
      rw[if_neg (by omega),if_neg (by omega),if_pos (by omega)]
      simp; omega
     ·have q1:p+1<l.length:=by omega
      have q2:p+1+1<l.length:=by omega
      have q3:p+1+1+1<l.length:=by omega
      refine fin 3 [d1,d2,d3] (by rw[e1 q1,e2 q2,e3 q3]; rfl) rfl (by decide) (by simp[z0G]; omega) (fun a1 a2 a3=>?_)
      simp only[z0G] at a1 a2 ⊢
      unfold z2B
      rw[if_neg (by omega),if_neg (by omega),if_neg (by omega),if_pos (by omega)]
      simp; omega
     ·have q1:p+1<l.length:=by omega
      have q2:p+1+1<l.length:=by omega
      have q3:p+1+1+1<l.length:=by omega
      have q4:p+1+1+1+1<l.length:=by omega
      refine fin 4 [d1,d2,d3,d4] (by rw[e1 q1,e2 q2,e3 q3,e4 q4]; rfl) rfl (by decide) (by simp[z0G]; omega) (fun a1 a2 a3=>?_)
      simp only[z0G] at a1 a2 ⊢
      unfold z2B
      rw[if_neg (by omega),if_neg (by omega),if_neg (by omega),if_neg (by omega)]
      simp; omega
 ·rw[if_neg hp] at hr; simp at hr
theorem z6d {l:List Int} {p q:Nat} {t:z0g} {n:Int} (hw:WfB l) (h:z0a l p=((t,n),q,0)):z0q t=true∧0≤n∧n≤16777216∧l.drop p=tgL t++(z0I n.toNat++l.drop q):=by
 have hr:z33 l p=((t,n),q,0):=by
  unfold z0a z0M at h
  split at h
  ·exact h
  ·rename_i h1
   simp only[Prod.mk.injEq] at h
   exact absurd h.2.2 h1
 unfold z33 at hr
 generalize ht:z0S l p=T at*
 obtain⟨t1,q1,e1⟩:=T
 dsimp only at hr
 by_cases he:e1=0
 ·subst he
  rw[if_pos rfl] at hr
  generalize hl:lenP l q1=L at*
  obtain⟨n1,q2,e2⟩:=L
  simp only[Prod.mk.injEq] at hr
  obtain⟨⟨rfl,rfl⟩,rfl,rfl⟩:=hr
  obtain⟨a1,a2⟩:=zj4 hw ht
  obtain⟨b1,b2,b3⟩:=zj5 hw hl
  exact⟨a1,b1,b2,by rw[a2,b3]⟩
 ·rw[if_neg he] at hr
  simp only[Prod.mk.injEq] at hr
  exact absurd hr.2.2 he
theorem z6e {l x:List Int} {p q:Nat} {t:z0g} (hw:WfB l) (h:z0m l p t=(x,q,0)):z0q t=true∧l.drop p=z04 t x++l.drop q:=by
 rw[zcz] at h
 generalize hr:z0a l p=R at*
 obtain⟨⟨t1,n⟩,q1,e⟩:=R
 dsimp only at h
 by_cases he:e=0
 ·subst he
  rw[if_pos rfl] at h
  by_cases h1:t1=t
  ·rw[if_pos h1] at h
   subst h1
   by_cases h2:(l.length:Int) -(q1:Int)<n
   ·rw[if_pos h2] at h; simp at h
   ·rw[if_neg h2] at h
    simp only[Prod.mk.injEq] at h
    obtain⟨rfl,rfl,_⟩:=h
    obtain⟨a1,a2,a3,a4⟩:=z6d hw hr
    refine⟨a1,?_⟩
    have hlen:((l.drop q1).take n.toNat).length=n.toNat:=by simp; omega
    unfold z04
    rw[hlen,a4]
    simp only[List.append_assoc]
    rw[←List.drop_drop,List.take_append_drop]
  ·rw[if_neg h1] at h; simp at h
 ·rw[if_neg he] at h; simp at h; omega
def W32 (x:Int):Prop:=0≤x∧x<4294967296
structure V8 where
 a:Int
 b:Int
 c:Int
 d:Int
 e:Int
 f:Int
 g:Int
 h:Int
def V8.l (v:V8):List Int:= [v.a,v.b,v.c,v.d,v.e,v.f,v.g,v.h]
def V8.ok (v:V8):Prop:=W32 v.a∧W32 v.b∧W32 v.c∧W32 v.d∧W32 v.e∧W32 v.f∧W32 v.g∧W32 v.h
def KS:List Int:= [
 0x428a2f98,0x71374491,0xb5c0fbcf,0xe9b5dba5,0x3956c25b,0x59f111f1,0x923f82a4,0xab1c5ed5,
 0xd807aa98,0x12835b01,0x243185be,0x550c7dc3,0x72be5d74,0x80deb1fe,0x9bdc06a7,0xc19bf174,
 0xe49b69c1,0xefbe4786,0x0fc19dc6,0x240ca1cc,0x2de92c6f,0x4a7484aa,0x5cb0a9dc,0x76f988da,
 0x983e5152,0xa831c66d,0xb00327c8,0xbf597fc7,0xc6e00bf3,0xd5a79147,0x06ca6351,0x14292967,
 0x27b70a85,0x2e1b2138,0x4d2c6dfc,0x53380d13,0x650a7354,0x766a0abb,0x81c2c92e,0x92722c85,
 0xa2bfe8a1,0xa81a664b,0xc24b8b70,0xc76c51a3,0xd192e819,0xd6990624,0xf40e3585,0x106aa070,
 0x19a4c116,0x1e376c08,0x2748774c,0x34b0bcb5,0x391c0cb3,0x4ed8aa4a,0x5b9cca4f,0x682e6ff3,
 0x748f82ee,0x78a5636f,0x84c87814,0x8cc70208,0x90befffa,0xa4506ceb,0xbef9a3f7,0xc67178f2]
def zh1 (x:Int):List Int:= [x/16777216%256,x/65536%256,x/256%256,x%256]
def V8.bytes (v:V8):List Int:=v.l.flatMap zh1
@[simp] theorem zy9:KS.length=64:=rfl
@[simp] theorem zya:KS≠ []:=by intro h; cases h
abbrev z87 (x:Int):Cell:= .lf (.v (.int .u32 x))
abbrev hC (v:V8) (bg:Bool) (X:Cell) (n:Int):List Cell:= [z87 v.a,z87 v.b,z87 v.c,z87 v.d,z87 v.e,z87 v.f,z87 v.g,z87 v.h,.lf (.v (.bool bg)),X,.lf (.v (.int .i64 n))]
theorem za4 {l:List Int} (h:WfB l) (p:Nat):0≤l.getD p 0∧l.getD p 0<256:=by
 rw[List.getD_eq_getElem?_getD]
 cases hx:l[p]? with
 | none=>exact⟨by simp,by simp⟩
 | some x=>exact h x (List.mem_of_getElem? hx)
abbrev z3t (u:Int) (l:List Int):Av:= .agg [.lf (.v (.int .i64 u)),.lf (.ints .u8 l)]
def z0P (u:Int) (l:List Int):Bool:=if l= [] then decide (u=0) else decide (0≤u)&&decide (u≤7)&&decide (l.getD (l.length -1) 0%2^u.toNat=0)
theorem zrm:∀ k:Fin 8,∀ x:Fin 256,(IntKind.u8.wrap (BitVec.ofInt IntKind.u8.bits ((x.val:Nat):Int)&&& BitVec.ofInt IntKind.u8.bits (1*2^min (((k.val:Nat):Int).toNat) IntKind.u8.bits -1)).toNat==0)=decide (((x.val:Nat):Int)%2^(((k.val:Nat):Int).toNat)=0):=by decide+kernel
theorem zrn {u x:Int} (hu:0≤u∧u≤7) (hx:0≤x∧x<256):(IntKind.u8.wrap (BitVec.ofInt IntKind.u8.bits x&&& BitVec.ofInt IntKind.u8.bits (1*2^min u.toNat IntKind.u8.bits -1)).toNat==0)=decide (x%2^u.toNat=0):=by
 obtain⟨k,rfl⟩:∃ k:Nat,u=k:=⟨u.toNat,by omega⟩
 obtain⟨y,rfl⟩:∃ y:Nat,x=y:=⟨x.toNat,by omega⟩
 exact zrm ⟨k,by omega⟩ ⟨y,by omega⟩
set_option maxHeartbeats 8000000 in
theorem z4u (u:Int) (l:List Int) (hl:l.length≤16000000) (hw:WfB l):Ct Tryz.prog 160 [z3t u l] [] (lv (.bool (z0P u l))) [] []:=by
 have hx:=za4 hw (l.length -1)
 unfold z0P
 by_cases h0:l= []
 ·rw[if_pos h0]
  subst h0
  refine z00 Tryz.func160 rfl rfl rfl rfl rfl (fun E hn hb=>?_)
  repeat refine nx ?_
  refine rt2 [] (congrArg (fun x=>lv (.bool x)) ?_) trivial
  rfl
 ·rw[if_neg h0]
  have hlp:0<l.length:=by
   cases l with
   | nil=>exact absurd rfl h0
   | cons=>simp
  by_cases hu:0≤u∧u≤7
  ·have:u=0∨u=1∨u=2∨u=3∨u=4∨u=5∨u=6∨u=7:=by omega
   rcases this with rfl | rfl | rfl | rfl | rfl | rfl | rfl | rfl
   all_goals
    refine z00 Tryz.func160 rfl rfl rfl rfl rfl (fun E hn hb=>?_)
    repeat refine nx ?_
    refine rt2 [] (congrArg (fun x=>lv (.bool x)) ?_) trivial
    rw[show((l.length:Int) -1).toNat=l.length -1 by omega]
    exact zrn hu hx
  ·refine z00 Tryz.func160 rfl rfl rfl rfl rfl (fun E hn hb=>?_)
   repeat refine nx ?_
   refine rt2 [] (congrArg (fun x=>lv (.bool x)) ?_) trivial
   have:¬ 0≤u∨¬ u≤7:=by omega
   rcases this with h | h
   ·rw[decide_eq_false h]; rfl
   ·rw[decide_eq_false h]; cases decide (0≤u)<;>rfl
def z3e (l:List Int):Int×List Int×Bool:=match l with
 | []=>(0,[],false)
 | u::m=>if z0P u m=true then(u,m,true) else(0,[],false)
theorem zh2 (l:List Int) (hl:l.length≤16000000) (hw:WfB l):Ct Tryz.prog 116 [B8 l] [] (.tup [z3t (z3e l).1 (z3e l).2.1,lv (.int .i64 (cond (z3e l).2.2 0 6))]) [] []:=by
 cases l with
 | nil=>
   refine z00 Tryz.func116 rfl rfl rfl rfl rfl (fun E hn hb=>?_)
   repeat refine nx ?_
   refine rtU [] (hu:=?_)
   exact⟨⟨.inl rfl,.inr ⟨rfl,.inl ⟨_,rfl⟩⟩,trivial⟩,.inl rfl,trivial⟩
 | cons u m=>
   have hr:=z4u u m (by simp at hl; omega) (fun x hx=>hw x (List.mem_cons_of_mem _ hx))
   have hcl:=zc0 m (by simp at hl; omega)
   have hu:=hw u (List.mem_cons_self ..)
   unfold z3e
   dsimp only
   by_cases hrs:z0P u m=true
   ·rw[if_pos hrs]
    rw[hrs] at hr
    refine z00 Tryz.func116 rfl rfl rfl rfl rfl (fun E hn hb=>?_)
    repeat refine nx ?_
    exact rt1 []
   ·rw[if_neg hrs]
    rw[Bool.not_eq_true] at hrs
    rw[hrs] at hr
    refine z00 Tryz.func116 rfl rfl rfl rfl rfl (fun E hn hb=>?_)
    repeat refine nx ?_
    refine rtU [] (hu:=?_)
    exact⟨⟨.inl rfl,.inr ⟨rfl,.inl ⟨_,rfl⟩⟩,trivial⟩,.inl rfl,trivial⟩
theorem zkP {l:List Int} (h:¬ (z3e l).2.2=true):z3e l=(0,[],false):=by
 unfold z3e at h ⊢
 cases l with
 | nil=>rfl
 | cons u m=>
   dsimp only at h ⊢
   by_cases hr:z0P u m=true
   ·rw[if_pos hr] at h; exact absurd rfl h
   ·rw[if_neg hr]
end Go.Proofs.YtaagjnlkinojcaaGreat

/-
  Rows of structs whose cells may be ways into blocks of the call's own: literals, appended to, looked into. No condition.
-/
import Derived.Test.YtaagjnlkinojcaaGreatC12
import Derived.Test.YtaagjnlkinojcaaGreatA19
import Derived.Test.YtaagjnlkinojcaaGreatD15
import Derived.Test.YtaagjnlkinojcaaGreatE8
import Derived.Test.YtaagjnlkinojcaaGreatM3
import Derived.Test.YtaagjnlkinojcaaGreatSxQ
namespace Go.Proofs.YtaagjnlkinojcaaGreat
set_option linter.unusedSimpArgs false
set_option linter.unusedVariables false
open Go.Sx
set_option maxRecDepth 10000
theorem z6E {n:Int} (h:0≤n∧n≤2147483647):inR n=true:=by simp[inR]; omega
theorem zfh {n:Int} (h:0≤n∧n≤2147483647):z0W (z3I n)=true:=by
 unfold z3I
 by_cases c:n<80
 ·rw[if_pos c,z1O,if_neg (by simp)]
  have h1:([n/40,n%40]:List Int).all inR=true:=by
   simp only[List.all_cons,List.all_nil,Bool.and_true,Bool.and_eq_true]
   exact⟨z6E (by omega),z6E (by omega)⟩
  rw[if_neg (by rw[h1]; simp),if_pos (by omega)]
  simp; omega
 ·rw[if_neg c,z1O,if_neg (by simp)]
  have h1:([2,n -80]:List Int).all inR=true:=by
   simp only[List.all_cons,List.all_nil,Bool.and_true,Bool.and_eq_true]
   exact⟨z6E (by omega),z6E (by omega)⟩
  rw[if_neg (by rw[h1]; simp),if_neg (by omega),if_pos rfl]
  simp; omega
theorem zdJ {o:List Int} {n:Int} (ho:z0W o=true) (hl:o.length≠32) (h:0≤n∧n≤2147483647):z0W (o++ [n])=true:=by
 match o,ho with
 | a::b::t,ho=>
   rw[List.cons_append,List.cons_append,z1O]
   rw[z1O] at ho
   by_cases c1:30<t.length
   ·rw[if_pos c1] at ho; cases ho
   ·rw[if_neg c1] at ho
    by_cases c2:(a::b::t).all inR=false
    ·rw[if_pos c2] at ho; cases ho
    ·rw[if_neg c2] at ho
     rw[if_neg (by simp at hl ⊢; omega)]
     have h1:(a::b::(t++ [n])).all inR=true:=by
      rw[Bool.not_eq_false] at c2
      rw[←List.cons_append,←List.cons_append,List.all_append,c2]
      simp[z6E h]
     rw[if_neg (by rw[h1]; simp)]
     exact ho
theorem z9C (l:List Int) (hw:WfB l):∀(k p:Nat) (o:List Int),l.length -p<k→(z0W o=true∨(o= []∧p<l.length))→(prA k l p o).2=0→z0W (prA k l p o).1=true
 | 0,p,o,h,_,_=>by omega
 | k+1,p,o,h,ho,he=>by
   unfold prA at he ⊢
   by_cases hp:p<l.length
   ·rw[if_pos hp] at he ⊢
    dsimp only at he ⊢
    have hn:=(z5Y (l.drop p) p 0 true).2.2 (by rw[z27 l p hp]; simp)
    have hr:=z6I (l.drop p) p 0 true (by omega) (fun x hx=>hw x (List.mem_of_mem_drop hx))
    split at he
    ·rename_i h1
     rw[if_pos h1]
     split at he
     ·simp at he
     ·rename_i h2
      rw[if_neg h2]
      refine z9C l hw k _ _ (by omega) (.inl ?_) he
      rcases ho with ho |⟨rfl,_⟩
      ·have:¬ o.length=0:=by
        intro h; rw[List.eq_nil_of_length_eq_zero h] at ho; cases ho
       rw[if_neg this]
       exact zdJ ho h2 hr
      ·rw[if_pos (by rfl),List.nil_append]
       exact zfh hr
    ·rename_i h1
     exact absurd he h1
   ·rw[if_neg hp]
    rcases ho with ho |⟨_,h⟩
    ·exact ho
    ·exact absurd h hp
theorem zdK (l:List Int) (hw:WfB l) (he:(z2J l).2=0):z0W (z2J l).1=true:=by
 unfold z2J at he ⊢
 by_cases h0:l= []
 ·rw[if_pos h0] at he; simp at he
 ·rw[if_neg h0] at he ⊢
  have:0<l.length:=by
   cases l with
   | nil=>exact absurd rfl h0
   | cons=>simp
  exact z9C l hw _ _ _ (by omega) (.inr ⟨rfl,this⟩) he
theorem zaO {a b:List Int} {x y:Int} (h:a++ [x]=b++ [y]):a=b∧x=y:=by
 have:=List.append_inj' h rfl
 exact⟨this.1,by simpa using this.2⟩
theorem zcf:∀(r:List Int) (p:Nat) (n:Int) (f:Bool) (N:Int) (q:Nat),(∀ x ∈ r,0≤x∧x<256)→0≤n→n≤2147483647→nxA r p n f=(N,0,q)→
  ∃ w r',r=w++r'∧q=p+w.length∧(f=true→n=0→z19 N.toNat=w)∧(f=false→0<n→∀ L,z19 n.toNat=L++ [n%128]→z19 N.toNat=L++ [n%128+128]++w)
 | [],p,n,f,N,q,_,_,_,h=>by simp[nxA] at h
 | x::r,p,n,f,N,q,hw,h0,hm,h=>by
   have hx:=hw x (List.mem_cons_self ..)
   unfold nxA at h
   by_cases c1:f=true∧x=128
   ·rw[if_pos c1] at h; simp at h
   ·rw[if_neg c1] at h
    by_cases c2:2147483647<128*n+x%128
    ·rw[if_pos c2] at h; simp at h
    ·rw[if_neg c2] at h
     have big:f=false→0<n→∀ L,z19 n.toNat=L++ [n%128]→z19 (128*n+x%128).toNat=(L++ [n%128+128])++ [x%128]:=by
      intro hf hn L hL
      obtain⟨L',k1,k2⟩:=z71 (n:=(128*n+x%128).toNat) (by omega) (by omega)
      have e1:(128*n+x%128).toNat/128=n.toNat:=by omega
      rw[e1,hL] at k1
      obtain⟨rfl,e2⟩:=zaO k1
      rw[k2,e1]
      have e3:((n.toNat%128:Nat):Int)=n%128:=by omega
      have e4:(((128*n+x%128).toNat%128:Nat):Int)=x%128:=by omega
      rw[e3,e4]
     by_cases c3:x<128
     ·rw[if_pos c3] at h
      simp only[Prod.mk.injEq] at h
      obtain⟨rfl,_,rfl⟩:=h
      refine⟨[x],r,rfl,rfl,fun hf hn=>?_,fun hf hn L hL=>?_⟩
      ·subst hn
       have:(128*0+x%128).toNat=x.toNat:=by omega
       rw[this,z4z (by omega)]
       have:((x.toNat:Nat):Int)=x:=by omega
       rw[this]
      ·rw[big hf hn L hL,show x%128=x by omega]
     ·rw[if_neg c3] at h
      obtain⟨w,r',e1,e2,_,e4⟩:=zcf r (p+1) (128*n+x%128) false N q (fun y hy=>hw y (List.mem_cons_of_mem _ hy)) (by omega) (by omega) h
      refine⟨x::w,r',by rw[e1]; rfl,by rw[e2]; simp; omega,fun hf hn=>?_,fun hf hn L hL=>?_⟩
      ·subst hn
       have hx1:x≠128:=fun h=>c1 ⟨hf,h⟩
       have:=e4 rfl (by omega) [] (by rw[z4z (by omega)]; simp; omega)
       rw[this]
       have e5:(128*0+x%128)%128+128=x:=by omega
       rw[e5]
       rfl
      ·have:=e4 rfl (by omega) (L++ [n%128+128]) (by rw[big hf hn L hL]; have:(128*n+x%128)%128=x%128:=by omega
                                                     rw[this])
       rw[this]
       have e5:(128*n+x%128)%128+128=x:=by omega
       rw[e5]
       simp
theorem zgq {N:Int} (h:0≤N):z0Y (z3I N)= [N]:=by
 unfold z3I
 by_cases c:N<80
 ·rw[if_pos c]
  show [40*(N/40)+N%40]= [N]
  rw[show 40*(N/40)+N%40=N by omega]
 ·rw[if_neg c]
  show [40*2+(N -80)]= [N]
  rw[show 40*2+(N -80)=N by omega]
theorem zaP (l:List Int) (hw:WfB l):∀(k p:Nat) (o ro:List Int),l.length -p<k→(o= []∨2≤o.length)→prA k l p o=(ro,0)→z0v (z0Y ro)=z0v (z0Y o)++l.drop p
 | 0,p,o,ro,h,_,_=>by omega
 | k+1,p,o,ro,h,ho,he=>by
   unfold prA at he
   by_cases hp:p<l.length
   ·rw[if_pos hp] at he
    dsimp only at he
    have hn:=(z5Y (l.drop p) p 0 true).2.2 (by rw[z27 l p hp]; simp)
    have hr:=z6I (l.drop p) p 0 true (by omega) (fun x hx=>hw x (List.mem_of_mem_drop hx))
    have hb:=zcf (l.drop p) p 0 true
    generalize nxA (l.drop p) p 0 true=X at*
    obtain⟨N,e,q⟩:=X
    dsimp only at*
    by_cases h1:e=0
    ·subst h1
     rw[if_pos rfl] at he
     obtain⟨w,r',e1,e2,e3,_⟩:=hb N q (fun x hx=>hw x (List.mem_of_mem_drop hx)) (by omega) (by omega) rfl
     have e3:=e3 rfl rfl
     have hdq:l.drop q=r':=by rw[e2,←List.drop_drop,e1,List.drop_left]
     by_cases h2:o.length=32
     ·rw[if_pos h2] at he; simp at he
     ·rw[if_neg h2] at he
      have ih:=zaP l hw k q _ ro (by omega) (.inr ?_) he
      ·rw[ih,e1,hdq,←List.append_assoc]
       congr 1
       rcases ho with rfl | ho
       ·rw[if_pos (by rfl),List.nil_append,zgq hr.1]
        show [N].flatMap (fun x=>z19 x.toNat)= []++w
        simp[e3]
       ·match o,ho with
        | a::b::t,_=>
          rw[if_neg (by simp)]
          show((40*a+b)::(t++ [N])).flatMap (fun x=>z19 x.toNat)=((40*a+b)::t).flatMap (fun x=>z19 x.toNat)++w
          rw[←List.cons_append,List.flatMap_append]
          simp[e3]
      ·rcases ho with rfl | ho
       ·rw[if_pos (by rfl)]
        unfold z3I
        split<;>simp
       ·rw[if_neg (by omega)]
        simp; omega
    ·rw[if_neg h1] at he
     simp only[Prod.mk.injEq] at he
     exact absurd he.2 h1
   ·rw[if_neg hp] at he
    simp only[Prod.mk.injEq] at he
    obtain⟨rfl,_⟩:=he
    rw[List.drop_eq_nil_of_le (by omega),List.append_nil]
theorem zfi {l o:List Int} (hw:WfB l) (h:z2J l=(o,0)):z0v (z0Y o)=l:=by
 unfold z2J at h
 by_cases h0:l= []
 ·rw[if_pos h0] at h; simp at h
 ·rw[if_neg h0] at h
  have:=zaP l hw _ 0 [] o (by omega) (.inl rfl) h
  rw[this]
  rfl
theorem zaQ:∀(k N:Nat) (L:List Int),N<k→0<N→N≤16777215→z19 N=L++ [((N%128:Nat):Int)]→∀(r:List Int) (p:Nat),nxA (L++([((N%128:Nat):Int)+128]++r)) p 0 true=nxA r (p+L.length+1) N false
 | 0,_,_,h,_,_,_=>by omega
 | k+1,N,L,h,h0,hm,hL=>by
   intro r p
   by_cases c:N<128
   ·rw[z4z c] at hL
    have:L= []:=by
     have:=congrArg List.length hL
     simp at this
     exact this
    subst this
    have e:N%128=N:=Nat.mod_eq_of_lt c
    rw[e]
    show nxA (((N:Int)+128)::r) p 0 true=_
    rw[nxA,if_neg (by simp; omega),if_neg (by omega),if_neg (by omega)]
    have e2:(128:Int)*0+((N:Int)+128)%128=N:=by omega
    rw[e2]
    rfl
   ·obtain⟨L',k1,k2⟩:=z71 c (by omega)
    rw[k2] at hL
    obtain⟨rfl,_⟩:=zaO hL
    have ih:=zaQ k (N/128) L' (by omega) (by omega) (by omega) k1 ([((N%128:Nat):Int)+128]++r) p
    rw[List.append_assoc]
    rw[ih]
    show nxA ((((N%128:Nat):Int)+128)::r) _ _ false=_
    rw[nxA,if_neg (by simp),if_neg (by omega),if_neg (by omega)]
    have e2:(128:Int)*((N/128:Nat):Int)+(((N%128:Nat):Int)+128)%128=N:=by omega
    rw[e2]
    simp
    rfl
theorem zcg {N:Nat} (hm:N≤2147483647) (r:List Int) (p:Nat):nxA (z19 N++r) p 0 true=((N:Int),0,p+(z19 N).length):=by
 by_cases c:N<128
 ·rw[z4z c]
  show nxA ((N:Int)::r) p 0 true=_
  rw[nxA,if_neg (by simp; omega),if_neg (by omega),if_pos (by omega)]
  have e2:(128:Int)*0+(N:Int)%128=N:=by omega
  rw[e2]
  rfl
 ·obtain⟨L',k1,k2⟩:=z71 c (by omega)
  have:=zaQ (N/128+1) (N/128) L' (by omega) (by omega) (by omega) k1 ([((N%128:Nat):Int)]++r) p
  rw[k2,List.append_assoc,List.append_assoc,this]
  show nxA (((N%128:Nat):Int)::r) _ _ false=_
  rw[nxA,if_neg (by simp),if_neg (by omega),if_pos (by omega)]
  have e2:(128:Int)*((N/128:Nat):Int)+((N%128:Nat):Int)%128=N:=by omega
  rw[e2]
  simp
  omega
theorem zaR (N:Nat):0<(z19 N).length:=by simp[z19]
theorem zch (l:List Int):∀(ns:List Int) (k p:Nat) (o:List Int),(∀ x ∈ ns,0≤x∧x≤2147483647)→l.drop p=z0v ns→p≤l.length→l.length -p<k→2≤o.length→o.length+ns.length≤32→prA k l p o=(o++ns,0)
 | [],k+1,p,o,hx,hd,hp,hk,ho,hs=>by
   have:l.length≤p:=by simpa[z0v] using hd
   rw[prA,if_neg (by omega),List.append_nil]
 | x::ns,k+1,p,o,hx,hd,hp,hk,ho,hs=>by
   have hd':l.drop p=z19 x.toNat++z0v ns:=hd
   have hlen:=congrArg List.length hd'
   have hpos:=zaR x.toNat
   have hx0:=hx x (List.mem_cons_self ..)
   rw[List.length_drop,List.length_append] at hlen
   simp only[List.length_cons] at hs
   have hnx:=zcg (N:=x.toNat) (by omega) (z0v ns) p
   have e0:((x.toNat:Nat):Int)=x:=by omega
   rw[prA,if_pos (by omega),hd',hnx]
   dsimp only
   rw[if_pos rfl,if_neg (by omega),if_neg (by omega),e0]
   have ih:=zch l ns k (p+(z19 x.toNat).length) (o++ [x]) (fun y hy=>hx y (List.mem_cons_of_mem _ hy)) (by rw[←List.drop_drop,hd',List.drop_left]) (by omega) (by omega) (by simp; omega) (by simp; omega)
   rw[ih,List.append_assoc]
   rfl
theorem zgr {o:List Int} (h:z0W o=true):z2J (z0v (z0Y o))=(o,0):=by
 obtain⟨a,b,t,rfl,h1,h2,h3,h4,h5,h6,h7⟩:=z3W h
 have hd:z0v (z0Y (a::b::t))=z19 (40*a+b).toNat++z0v t:=rfl
 have hpos:=zaR (40*a+b).toNat
 rw[hd]
 have hne:z19 (40*a+b).toNat++z0v t≠ []:=by
  intro hh
  have:=congrArg List.length hh
  simp at this
  rw[this.1] at hpos
  simp at hpos
 unfold z2J
 rw[if_neg hne]
 have hnx:=zcg (N:=(40*a+b).toNat) (by omega) (z0v t) 0
 have e0:(((40*a+b).toNat:Nat):Int)=40*a+b:=by omega
 have hsp:z3I (40*a+b)= [a,b]:=by
  unfold z3I
  by_cases c:40*a+b<80
  ·rw[if_pos c]
   rw[show(40*a+b)/40=a by omega,show(40*a+b)%40=b by omega]
  ·rw[if_neg c]
   have:a=2:=by omega
   subst this
   rw[show(40:Int)*2+b -80=b by omega]
 rw[prA,if_pos (by simp; omega),List.drop_zero,hnx]
 dsimp only
 rw[if_pos rfl,if_neg (by simp),if_pos (by rfl),e0,hsp,List.nil_append]
 have:=zch (z19 (40*a+b).toNat++z0v t) t ((z19 (40*a+b).toNat++z0v t).length) (0+(z19 (40*a+b).toNat).length) [a,b] h6 (by rw[Nat.zero_add,List.drop_left]) (by simp) (by simp; omega) (by simp) (by simp; omega)
 rw[this]
 rfl
theorem zgs (A C:List Int) {o:List Int} (h:z0W o=true):z4A (A++(z05 (ofT 6) (z0v (z0Y o))++C)) A.length=(o,A.length+(z05 (ofT 6) (z0v (z0Y o))).length,0):=by
 have hl:=z3N h
 unfold z4A
 rw[z3y A (z0v (z0Y o)) C (ofT 6) (by decide) (by omega)]
 dsimp only
 rw[if_pos rfl,zgr h]
 rfl
theorem zci:∀(k n:Nat),WfB (z3L k n)
 | 0,n=>fun x hx=>by simp[z3L] at hx
 | k+1,n=>fun x hx=>by
   unfold z3L at hx
   split at hx
   ·cases hx
   ·rcases List.mem_cons.1 hx with rfl | hx
    ·omega
    ·exact zci k (n/128) x hx
theorem zip (n:Nat):WfB (z19 n):=fun x hx=>by
 unfold z19 at hx
 rw[List.mem_reverse] at hx
 rcases List.mem_cons.1 hx with rfl | hx
 ·omega
 ·exact zci 5 _ x hx
theorem zgt (l:List Int):WfB (z0v l):=fun x hx=>by
 unfold z0v at hx
 obtain⟨y,_,hy⟩:=List.mem_flatMap.1 hx
 exact zip _ x hy
theorem z5Q {a b:List Int} (ha:WfB a) (hb:WfB b):WfB (a++b):=fun x hx=>(List.mem_append.1 hx).elim (ha x) (hb x)
theorem z1I (t:z0h) (X:List Int) (h:z0q t=true) (hw:WfB X):WfB (z05 t X):=by
 have hr:0≤t.1∧t.1≤3∧0≤t.2.1∧t.2.1<2097152:=by simp[z0q] at h; omega
 have hfm:=z67 h
 have hfi:0≤z1h t∧z1h t≤224:=by
  simp only[List.mem_cons,List.not_mem_nil,or_false] at hfm
  omega
 have hD:=z8i 128 (by decide) 5 t.2.1.toNat
 have h2:=z2g 256 5 X.length
 have hL:=zag 256 (by decide) (by decide) 5 X.length
 refine z5Q (z5Q ?_ ?_) hw
 ·unfold tgL
  split
  ·intro x hx
   rw[List.mem_singleton.1 hx]
   omega
  ·intro x hx
   cases hx with
   | head=>omega
   | tail _ hx=>
     unfold hiL at hx
     rcases List.mem_append.1 hx with hx | hx
     ·obtain⟨y,hy,rfl⟩:=List.mem_map.1 hx
      have:=hD y (List.mem_reverse.1 (List.mem_of_mem_take hy))
      omega
     ·have:=hD x (List.mem_reverse.1 (List.mem_of_mem_drop hx))
      omega
 ·unfold z0I
  split
  ·intro x hx
   rw[List.mem_singleton.1 hx]
   omega
  ·intro x hx
   cases hx with
   | head=>omega
   | tail _ hx=>exact hL x (List.mem_reverse.1 hx)
theorem zfj {l o:List Int} {p q:Nat} (hw:WfB l) (h:z4A l p=(o,q,0)):z0W o=true∧l.drop p=z05 (ofT 6) (z0v (z0Y o))++l.drop q:=by
 unfold z4A at h
 have hm:=z0H l p (ofT 6)
 generalize hX:z0r l p (ofT 6)=X at*
 obtain⟨x,q1,e⟩:=X
 dsimp only at*
 have hwx:WfB x:=fun y hy=>hw y (hm.2 y hy)
 by_cases he:e=0
 ·subst he
  rw[if_pos rfl] at h
  have hr:=zdK x hwx
  generalize hY:z2J x=Y at*
  obtain⟨o1,f⟩:=Y
  dsimp only at*
  by_cases hf:f=0
  ·subst hf
   rw[if_pos rfl] at h
   simp only[Prod.mk.injEq] at h
   obtain⟨rfl,rfl,_⟩:=h
   refine⟨hr rfl,?_⟩
   rw[zfi hwx hY]
   exact(z2Y hw hX).2
  ·rw[if_neg hf] at h
   simp only[Prod.mk.injEq] at h
   exact absurd h.2.2 hf
 ·rw[if_neg he] at h
  simp only[Prod.mk.injEq] at h
  exact absurd h.2.2 he
theorem z7J (A b C:List Int) (t u:z0h) (h:z0q t=true) (hb:b.length≤16777216):isH (A++(z05 t b++C)) A.length u=decide (t=u):=by
 unfold isH
 rw[z4h A b C t h hb]
 simp
end Go.Proofs.YtaagjnlkinojcaaGreat
namespace Go.Sx
open Go
set_option linter.unusedVariables false
section
variable {P:Program} {E:Env} {ops:Array Oper} {Q:Exit→Act→World→Prop} {rest:List Oper} {o:Oper} {σ:St}
theorem zgu {t e:TypeId} {sz by_ n:Nat} {parts:Array (Nat×Operand)} {ps:List Prop} {out:List Cell} {β:Nat→Option Nat} {F:Nat→Prop} {a:Act} {w:World} (hS:SRb E β F σ a w) (hE:Elt P t e sz by_) (hz:z01 P e)
  (hf:z1A (fun i=>some (i*sz,sz)) (List.replicate (n*sz) .un) (parts.toList.map fun(i,x)=>(i,ox σ x))=some (ps,out)) (hp:z03 ps) (hn:n*sz≤16777216):
  ∃ r:Array Value,(Instr.buildSlice t n (parts.map fun(i,x)=>(i,a.eval x))).run P w= .ok (.slice (some ⟨w.heap.size,0,none⟩) n n) (w.alloc (.cells r e))∧r.size=out.length∧∀(i:Nat) (y:Cell) (u:Value),out[i]? =some y→r[i]? =some u→CellR β F w y u:=by
 obtain⟨ht,i,z,hi,hz',hsz,hby,hzs⟩:=hE
 let zs:Array Value:=(Array.range (n*sz)).map ((if n*sz=0 then #[] else z.cells)[· %(if n*sz=0 then(#[]:Array Value) else z.cells).size]!)
 have hzsz:zs.size=n*sz:=by simp[zs]
 have hzo:∀(j:Nat) (u:Value),zs[j]? =some u→u.oneCell'=true:=fun j u hu=>by
  have hlt:=(Array.getElem?_eq_some_iff.1 hu).1
  rw[hzsz] at hlt
  have hne:n*sz≠0:=by omega
  have hszp:0<sz:=Nat.pos_of_mul_pos_left (by omega:0<n*sz)
  have hm:j%z.cells.size<z.cells.size:=Nat.mod_lt _ (by omega)
  have:u=z.cells[j%z.cells.size]:=by
   simp only[zs,hne,if_false,Array.getElem?_map,Array.getElem?_range,hlt,if_true,Option.map_some,Option.some.injEq] at hu
   rw[←hu]
   simp[hm]
  rw[this]
  exact List.all_eq_true.1 (hz i z hi hz') _ (by simp)
 have hpl:z5I β F w (parts.toList.map fun(i,x)=>(i,ox (σ) x)) (parts.toList.map fun(i,x)=>(i,a.eval x)):=z4r hS parts.toList
 obtain⟨r,g1,g2,g3⟩:=z43 _ _ _ zs ps out hf hp (by simp[hzsz]) (fun j y u hy hu=>by
  rw[List.getElem?_replicate] at hy
  split at hy
  ·simp at hy; subst hy; exact .un (hzo j u hu)
  ·cases hy) hpl
 refine⟨r,?_,g2,g3⟩
 have e1:(parts.map fun(i,x)=>(i,a.eval x)).toList=parts.toList.map fun(i,x)=>(i,a.eval x):=by simp
 have e2:¬ (n*sz>2^24):=by omega
 unfold Instr.buildSlice
 simp only[Sem.run_bind,run_underlying ht,Result.andThen_ok,sizeOf,typeInfo,run_program,hi,Sem.run_pure,hsz,e1]
 rw[if_neg e2]
 by_cases h0:n*sz=0
 ·have:zs=(Array.range (n*sz)).map ((#[]:Array Value)[· %(#[]:Array Value).size]!):=by simp[zs,h0]
  rw[this] at g1
  simp only[h0,if_true,Sem.run_pure,Sem.run_bind,Result.andThen_ok] at g1 ⊢
  rw[g1]
  rfl
 ·have:zs=(Array.range (n*sz)).map (z.cells[· %z.cells.size]!):=by simp[zs,h0]
  rw[this] at g1
  simp only[h0,if_false,Sem.run_pure,Sem.run_bind,Result.andThen_ok,zeroValue,typeInfo,run_program,hi,hz']
  rw[g1]
  rfl
theorem zgv {t e:TypeId} {sz by_:Nat} {c:Call} {x y:Operand} {px qs:List Prop} {j i k m:Nat} {cs xs:List Cell} {β:Nat→Option Nat} {F:Nat→Prop} {a:Act} {w:World} {τ:St} (hS0:SRb E β F σ a w) (hS:SRb E β F τ a w) (hop:o.op= .call c) (hc:c.callee= .builtin .append) (ha:c.args.toList= [x,y]) (hty:c.argTypes.toList= [t,t])
  (hE:Elt P t e sz by_) (hx:ox σ x=(px,.c (.own j sz 0 k))) (hb:τ.hp j= .cells cs) (hy:ox σ y=(qs,.c (.own i sz 0 m))) (hbi:τ.hp i= .cells xs) (hp:z03 (px++qs)) (hlen:cs.length=k*sz∧xs.length=m*sz∧0<k∧0<m∧0<sz)
  (hlim:k+m≤1000∧by_≤4096):
  ∃ v w',(execOp a.eval o).run P w= .ok (.value v) w'∧
    ((SRb E β F (τ.seth j (.cells (cs++xs))) a w'∧∃ g cap,v= .slice (some ⟨g,0,none⟩) (k+m) cap∧k+m≤cap∧cap≤maxLen∧β j=some g∧z0X w' g (.sz (0+cap*sz)))∨
     ∃ g cap cur,v= .slice (some ⟨g,0,none⟩) (k+m) cap∧k+m≤cap∧cap≤maxLen∧w.grownBy w' none∧w.heap.size≤g∧g<w'.heap.size∧Row w' g cur∧0+cap*sz≤cur.size∧(cs++xs).length≤cur.size∧∀(p:Nat) (x:Cell) (u:Value),(cs++xs)[p]? =some x→cur[p]? =some u→CellR β F w' x u):=by
 have hv1:=oxR hS0 x
 rw[hx] at hv1
 have hv1:=hv1 hp.left
 have hv2:=oxR hS0 y
 rw[hy] at hv2
 have hv2:=hv2 hp.right
 have hca:c.args= #[x,y]:=by apply Array.toList_inj.1; simpa using ha
 have hct:c.argTypes= #[t,t]:=by apply Array.toList_inj.1; simpa using hty
 generalize he1:a.eval x=v1 at hv1
 generalize he2:a.eval y=v2 at hv2
 dsimp only at hv1 hv2
 cases hv1 with | c hv1=>cases hv1 with | own _ _ _ _ ao cap hlc hmx hh=>
 cases hv2 with | c hv2=>cases hv2 with | own _ _ _ _ ad cap2 hlc2 hmx2 hh2=>
 obtain⟨n1,n2,n3,n4,n5⟩:=hlen
 obtain⟨l1,l2⟩:=hlim
 obtain⟨ht,ii,z,hi,hz,hsz,hby,hzs⟩:=hE
 have hgone:τ.hp j≠ .gone:=by rw[hb]; intro h; cases h
 have hB:=hS.hp j
 rw[hb] at hB
 have hB2:=hS.hp i
 rw[hbi] at hB2
 obtain⟨g,cur,hgj,hrow,hcs,hcc⟩:=hB
 obtain⟨g2,cur2,hgi,hrow2,hxs,hxc⟩:=hB2
 obtain⟨g',hg',rfl,hcap⟩:∃ g',β j=some g'∧ao=some ⟨g',0,none⟩∧z0X w g' (.sz (0+cap*sz)):=hh.resolve_left (by omega)
 obtain⟨g2',hg2',rfl,hcap2⟩:∃ g',β i=some g'∧ad=some ⟨g',0,none⟩∧z0X w g' (.sz (0+cap2*sz)):=hh2.resolve_left (by omega)
 rw[hgj] at hg'
 obtain rfl:=Option.some.inj hg'
 rw[hgi] at hg2'
 obtain rfl:=Option.some.inj hg2'
 have hcl:cap*sz≤cur.size:=by
  obtain⟨c3,⟨t3,f3,k3,_⟩,h3⟩:=hcap
  obtain⟨t4,f4,k4,_⟩:=hrow
  rw[k3] at k4
  simp only[Option.some.injEq,Obj.cells.injEq] at k4
  rw[←k4.1]; omega
 -- what is there, what comes
 have hbytes:(k+m)*by_≤140737488355328:=by
  have:(k+m)*by_≤1000*4096:=Nat.mul_le_mul l1 l2
  omega
 have h63:k+m≤maxLen:=by simp only[maxLen]; omega
 obtain⟨news,w1,w2⟩:∃ news:List Value,news=cur2.toList.take (m*sz)∧news.length=m*sz:=⟨_,rfl,by simp; omega⟩
 obtain⟨olds,o1,o2⟩:∃ olds:List Value,olds=cur.toList.take (k*sz)∧olds.length=k*sz:=⟨_,rfl,by simp; omega⟩
 have hn3:∀(p:Nat) (u:Value),news[p]? =some u→cur2[p]? =some u:=fun p u hu=>by
  rw[w1,List.getElem?_take] at hu
  split at hu
  ·simpa using hu
  ·cases hu
 have ho3:∀(p:Nat) (u:Value),olds[p]? =some u→cur[p]? =some u:=fun p u hu=>by
  rw[o1,List.getElem?_take] at hu
  split at hu
  ·simpa using hu
  ·cases hu
 have hnR:∀(p:Nat) (x:Cell) (u:Value),xs[p]? =some x→news[p]? =some u→CellR β F w x u:=fun p x u h1 h2=>hxc p x u h1 (hn3 p u h2)
 have hoR:∀(p:Nat) (x:Cell) (u:Value),cs[p]? =some x→olds[p]? =some u→CellR β F w x u:=fun p x u h1 h2=>hcc p x u h1 (ho3 p u h2)
 have hone:∀ v,v ∈ news→v.oneCell'=true:=fun v hv=>by
  obtain⟨p,hp1,rfl⟩:=List.mem_iff_getElem.1 hv
  exact(hnR p xs[p] _ (by simp[show p<xs.length by omega]) (by simp[hp1])).one
 have hallR:∀(p:Nat) (x:Cell) (u:Value),(cs++xs)[p]? =some x→(olds++news)[p]? =some u→CellR β F w x u:=fun p x u h1 h2=>by
  rw[List.getElem?_append] at h1 h2
  rw[o2] at h2
  rw[n1] at h1
  split at h1
  ·rename_i h3
   rw[if_pos h3] at h2
   exact hoR p x u h1 h2
  ·rename_i h3
   rw[if_neg h3] at h2
   exact hnR _ x u h1 h2
 have hfc:(Builtin.firstCells sz m (.slice (some ⟨g2,0,none⟩) m cap2)).run P w= .ok news.toArray w:=by
  simp only[Builtin.firstCells]
  exact z29 (fun p u hu=>by rw[Nat.zero_add,hrow2.cell]; exact hn3 p u hu) (by omega)
 by_cases hroom:k+m≤cap
 ·have hle:0+k*sz+news.length≤cur.size:=by
   have:(k+m)*sz≤cap*sz:=Nat.mul_le_mul_right _ hroom
   rw[Nat.add_mul] at this
   omega
  obtain⟨_,_,hnF⟩:=hS.own j g hgone hgj
  obtain⟨w',r1,r2⟩:=z1q (P:=P) (g:=g) (off:=k*sz) news 0 w cur hone hrow (by omega)
  simp only[Nat.add_zero] at r2
  have hle':k*sz+news.length≤cur.size:=by omega
  have hls:=z3K hle'
  have hrun:(Builtin.append_ #[t,t] o.type #[.slice (some ⟨g,0,none⟩) k cap,.slice (some ⟨g2,0,none⟩) m cap2]).run P w= .ok (.slice (some ⟨g,0,none⟩) (k+m) cap) w':=by
   simp[Builtin.append_,run_underlying ht,sizeOf,typeInfo,hi,hsz,Builtin.lenOf,hroom,hfc,z0D,r1]
  refine⟨_,w',z0K hop hc hca hct (by rw[he1,he2]; exact hrun),.inl ⟨?_,g,cap,rfl,hroom,hmx,hgj,_,r2.row,by rw[hls]; omega⟩⟩
  refine(hS.written hgone hgj hrow r2 hls (blk:= .cells (cs++xs)) ⟨g,_,hgj,r2.row,by rw[hls,List.length_append]; omega,fun p x u hx hu=>?_⟩).1
  rw[z3B hle'] at hu
  refine r2.cells hrow hls hnF ?_
  rw[List.getElem?_append] at hx
  rw[n1] at hx
  by_cases h1:p<k*sz
  ·rw[if_pos h1] at hx hu
   exact hcc p x u hx hu
  ·rw[if_neg h1] at hx hu
   have h2:=(List.getElem?_eq_some_iff.1 hx).1
   rw[if_pos (by omega)] at hu
   exact hnR _ x u hx hu
 ·obtain⟨v',w',hrun,hown,hgb⟩:=run_append_arg_grows (P:=P) w t o.type e ii z sz by_ ht hi hz hsz hby hzs n5 ⟨g,0,none⟩ k cap olds o2 (fun p u hu=>by rw[z0D,Nat.zero_add,hrow.cell]; exact ho3 p u hu)
   ⟨g2,0,none⟩ m cap2 news w2 (fun p u hu=>by rw[z0D,Nat.zero_add,hrow2.cell]; exact hn3 p u hu) (by omega) h63 hbytes
  obtain⟨hsz',hown⟩:=hown
  rcases hown with ⟨_,h0⟩ |⟨g',cap',cur',rfl,hg1,hg2,hn1,hn2,hn3',hn4⟩
  ·omega
  ·have hlt':g'<w'.heap.size:=(Array.getElem?_eq_some_iff.1 hg2).1
   have hrow':Row w' g' cur':=⟨e,(0,0),hg2,.inl rfl⟩
   have hlc:(olds++news).length≤cur'.size:=by
     rw[←hn4,List.length_take]
     simp only[Array.length_toList]
     omega
   have hbw:∀ b,b<w.heap.size→w'.heap[b]? =w.heap[b]?:=fun b hb=>hgb.block b hb (by simp)
   refine⟨_,w',z0K hop hc hca hct (by rw[he1,he2]; exact hrun),.inr ⟨g',cap',cur',rfl,hn1,hn2,hgb,hg1,hlt',hrow',by rw[hn3']; omega,by rw[List.length_append] at hlc ⊢; omega,fun p x u hx hu=>?_⟩⟩
   have hp2:=(List.getElem?_eq_some_iff.1 hx).1
   rw[List.length_append] at hp2
   have hu2:(olds++news)[p]? =some u:=by
     rw[←hn4,List.getElem?_take,if_pos (by rw[Nat.add_mul]; omega)]
     simpa using hu
   exact(hallR p x u hx hu2).mono (fun _ _ h=>h) (fun b hb=>⟨hb,hbw b (hS.fr b hb).1⟩) (fun gq nq hq=>hq.same (hbw gq hq.lt))
end
end Go.Sx

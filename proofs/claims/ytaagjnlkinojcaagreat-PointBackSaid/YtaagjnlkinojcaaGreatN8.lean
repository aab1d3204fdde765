/-
  Chapters 14 and 15, plain laws: names and general names that are right are read as they were written. The conditions: bytes, rows that a machine can hold.
-/
import Derived.Test.YtaagjnlkinojcaaGreatN5
import Derived.Test.YtaagjnlkinojcaaGreatO7
import Derived.Test.YtaagjnlkinojcaaGreatSxF
import Derived.Test.YtaagjnlkinojcaaGreatM3
namespace Go.Proofs.YtaagjnlkinojcaaGreat
set_option linter.unusedSimpArgs false
set_option linter.unusedVariables false
open Go Go.Sx
set_option maxRecDepth 10000
abbrev WhT:Type:=List GnT×List AtT
abbrev PtT:Type:=Option WhT×List Int×List GnT
abbrev ScT:Type:=Option WhT×(Bool×Bool×Bool×Bool)×List Int
def z2b (w:WhT):Bool:=if 0<w.2.length then decide (w.1.length=0)&&z0C w.2 else z1g w.1
def z2K (lo:Int):List Int→Bool
 | []=>true
 | x::l=>decide (lo<x)&&decide (x≤8)&&z2K x l
def z0T (l:List Int):Bool:=z2K (-1) l
def z3J:Option WhT→Bool
 | none=>true
 | some w=>z2b w
def z0A (p:PtT):Bool:=z3J p.1&&z0T p.2.1&&(decide (p.2.2.length=0)||z1g p.2.2)&&(p.1.isSome||decide (0<p.2.2.length))
def zd4 (a b c:Bool):Int:=(if a then 1 else 0)+(if b then 1 else 0)+(if c then 1 else 0)
def z4M (s:ScT):Bool:=
 z3J s.1&&z0T s.2.2&&decide (zd4 s.2.1.1 s.2.1.2.1 s.2.1.2.2.2<2)&&(s.1.isSome||decide (0<s.2.2.length)||decide (0<zd4 s.2.1.1 s.2.1.2.1 s.2.1.2.2.2)||s.2.1.2.2.1)
def z0i {α:Type} (z:α) (l:List Int) (p:Nat) (t:z0h) (rd:List Int→α×Nat×Int):α×Nat×Int:=
 if isH l p t=true then
  let r:=z0r l p t
  if r.2.2=0 then(let s:=rd r.1; if s.2.2=0 then(if s.2.1<r.1.length then(z,r.2.1,7) else(s.1,r.2.1,0)) else(z,r.2.1,s.2.2)) else(z,p,r.2.2)
 else(z,p,0)
def z3s (x:List Int):List AtT×Nat×Int:=((z2e (z05 (ofT 17) x) 0).1,x.length,(z2e (z05 (ofT 17) x) 0).2.2)
def z3t (x:List Int):Option WhT×Nat×Int:=
 let r:=z0d x 0
 if r.2.2=0 then
  if isH x 0 (2,0,true)=true then(let s:=z0i [] x 0 (2,0,true) z16; if s.2.2=0 then(some (s.1,[]),s.2.1,0) else(none,s.2.1,s.2.2))
  else if isH x 0 (2,1,true)=true then(let s:=z0i [] x 0 (2,1,true) z3s; if s.2.2=0 then(some ([],s.1),s.2.1,0) else(none,s.2.1,s.2.2))
  else(none,0,4)
 else(none,r.2.1,r.2.2)
def z1E (x:List Int):Bool×Nat×Int:=if x= [255] then(true,x.length,0) else(false,x.length,6)
def z33 (n:List Int) (i:Nat):Bool:=decide (n.getD (i/8) 0/2^(7 -i%8)%2=1)
def z7n (u:Int) (n:List Int):List Int×Int:=
 let k:=8*n.length -u.toNat
 if 32<k∨(0<k∧z33 n (k -1)=false) then([],6) else(((List.range k).filter (z33 n)).map fun(i:Nat)=>(i:Int),0)
def z1p (x:List Int):List Int×Nat×Int:=
 let s:=z4w x
 if s.2.2=true then(let f:=z7n s.1 s.2.1; if f.2=0∧f.1≠ []∧z0T f.1=true then(f.1,x.length,0) else([],x.length,6)) else([],x.length,6)
def z42 (x:List Int):PtT×Int:=
 let a:=z0i none x 0 (2,0,true) z3t
 if a.2.2=0 then
  let b:=z0i [] x a.2.1 (2,1,false) z1p
  if b.2.2=0 then
   let c:=z0i [] x b.2.1 (2,2,true) z16
   if c.2.2=0 then(if c.2.1<x.length then((none,[],[]),7) else if z0A (a.1,b.1,c.1)=true then((a.1,b.1,c.1),0) else((none,[],[]),6)) else((none,[],[]),c.2.2)
  else((none,[],[]),b.2.2)
 else((none,[],[]),a.2.2)
def z1t (l:List Int) (p:Nat):PtT×Nat×Int:=
 let r:=z0r l p (ofT 16)
 if r.2.2=0 then(if(z42 r.1).2=0 then((z42 r.1).1,r.2.1,0) else((none,[],[]),p,(z42 r.1).2)) else((none,[],[]),p,r.2.2)
def z2q (x:List Int):Nat→Nat→List PtT→List PtT×Int
 | 0,_,_=>([],0)
 | f+1,p,acc=>if p<x.length then(if acc.length=10000 then([],2) else let r:=z1t x p; if r.2.2=0 then z2q x f r.2.1 (acc++ [r.1]) else([],r.2.2)) else(acc,0)
def z2P (l:List Int) (p:Nat):List PtT×Nat×Int:=
 let r:=z0r l p (ofT 16)
 if r.2.2=0 then
  (if r.1.length=0 then([],p,6) else let s:=z2q r.1 (r.1.length+1) 0 []; if s.2=0 then(s.1,r.2.1,0) else([],p,s.2))
 else([],p,r.2.2)
theorem z6K (l:List Int) (p:Nat) (hp:p≤l.length):p≤(z1t l p).2.1∧(z1t l p).2.1≤l.length:=by
 have h:=z24 l p (ofT 16) hp
 unfold z1t
 dsimp only
 split
 ·split
  ·exact h
  ·exact⟨Nat.le_refl _,hp⟩
 ·exact⟨Nat.le_refl _,hp⟩
theorem zl9 {y:List Int} {x:PtT} (h:z42 y=(x,0)):z0A x=true:=by
 unfold z42 at h
 dsimp only at h
 repeat' split at h
 all_goals
  simp only[Prod.mk.injEq] at h
  obtain⟨h1,h2⟩:=h
  first
   |(subst h1; assumption)
   |(exact absurd h2 (by decide))
   |(exact absurd h2 ‹_›)
theorem zes {l:List Int} {p q:Nat} {x:PtT} (h:z1t l p=(x,q,0)):z0A x=true:=by
 unfold z1t at h
 generalize z0r l p (ofT 16)=R at*
 obtain⟨y,s,e⟩:=R
 dsimp only at h
 by_cases he:e=0
 ·subst he
  rw[if_pos rfl] at h
  generalize hI:z42 y=I at*
  obtain⟨z,f⟩:=I
  dsimp only at h
  by_cases hi:f=0
  ·subst hi
   rw[if_pos rfl] at h
   simp only[Prod.mk.injEq] at h
   obtain⟨rfl,_⟩:=h
   exact zl9 hI
  ·rw[if_neg hi] at h
   simp only[Prod.mk.injEq] at h
   exact absurd h.2.2 hi
 ·rw[if_neg he] at h
  simp only[Prod.mk.injEq] at h
  exact absurd h.2.2 he
theorem z7E (l:List Int):∀(n p:Nat) (acc:List (List Int)),(z11 l n p acc).2=0→acc.length≤(z11 l n p acc).1.length
 | 0,p,acc,_=>by simp[z11]
 | n+1,p,acc,h=>by
   rw[z11] at h ⊢
   by_cases c:l.length≤p
   ·rw[if_pos c]; exact Nat.le_refl _
   ·rw[if_neg c] at h ⊢
    by_cases e:¬ (z13 l p).2.2.2.1=0
    ·rw[if_pos e] at h; exact absurd h e
    ·rw[if_neg e] at h ⊢
     have:=z7E l n _ _ h
     simp at this
     omega
theorem zd5 (l:List Int) (n p:Nat) (acc:List (List Int)) (h:(z11 l n p acc).2=0) (hp:p<l.length) (hn:0<n):acc.length+1≤(z11 l n p acc).1.length:=by
 obtain⟨k,rfl⟩:∃ k,n=k+1:=⟨n -1,by omega⟩
 rw[z11,if_neg (by omega)] at h ⊢
 by_cases e:¬ (z13 l p).2.2.2.1=0
 ·rw[if_pos e] at h; exact absurd h e
 ·rw[if_neg e] at h ⊢
  have:=z7E l k _ _ h
  simpa using this
theorem zd6 {m:List Int} (hw:WfB m) (h0:(z12 m 0).2=0) (h1:(z12 m 0).1.length<2) (hm:m≠ []):(z0d m 0).2.2=0∧(z0d m 0).1.2=(m.length:Int) -((z0d m 0).2.1:Int):=by
 have hpos:0<m.length:=by cases m with | nil=>exact absurd rfl hm | cons _ _=>simp
 have hle:=z1k m 0 (Nat.zero_le _)
 have hn0:=(z2B m 0 hw).1
 unfold z12 at h0 h1
 rw[z11,if_neg (by omega)] at h0 h1
 by_cases e:¬ (z13 m 0).2.2.2.1=0
 ·rw[if_pos e] at h0; exact absurd h0 e
 ·rw[if_neg e] at h0 h1
  have h2:¬ (z13 m 0).2.2.2.2<m.length:=by
   intro hq
   have:=zd5 m m.length _ _ h0 hq hpos
   simp at this
   simp at h1
   omega
  unfold z13 at e h2
  by_cases c1:¬ (z0d m 0).2.2=0
  ·rw[if_pos c1] at e; exact absurd c1 e
  ·rw[if_neg c1] at e h2
   by_cases c2:(m.length:Int) -(z0d m 0).2.1<(z0d m 0).1.2
   ·rw[if_pos c2] at e; simp at e
   ·rw[if_neg c2] at e h2
    dsimp only at h2
    refine⟨by simpa using c1,?_⟩
    omega
theorem zjn {t:List Int} (hw:WfB t) (h:z65 t=true):∃(g:z0h) (x:List Int),z0q g=true∧x.length≤16777216∧t=z05 g x:=by
 unfold z65 at h
 simp at h
 have hne:t≠ []:=by
  rintro rfl
  have:=h.2
  simp[z12,z11] at this
 obtain⟨h1,h2⟩:=zd6 hw h.1 (by rw[h.2]; omega) hne
 have hle:=z1k t 0 (Nat.zero_le _)
 have hb:=z6d (l:=t) (p:=0) (q:=(z0d t 0).2.1) (t:=(z0d t 0).1.1) (n:=(z0d t 0).1.2) hw (by rw[←h1])
 refine⟨(z0d t 0).1.1,t.drop (z0d t 0).2.1,hb.1,by simp; omega,?_⟩
 have e:=hb.2.2.2
 rw[List.drop_zero] at e
 have e2:(z0d t 0).1.2.toNat=(t.drop (z0d t 0).2.1).length:=by simp; omega
 rw[e2] at e
 rw[z05,List.append_assoc]
 exact e
theorem zjo (A:List Int) {v:List Int} (hw:WfB v) (h:z65 v=true):z4P (A++v) A.length=(v,A.length+v.length,0):=by
 obtain⟨g,x,h1,h2,rfl⟩:=zjn hw h
 have hr:=z4h A x [] g h1 h2
 rw[List.append_nil] at hr
 unfold z4P
 rw[hr]
 dsimp only
 have hlen:(z05 g x).length=(tgL g).length+(z0I x.length).length+x.length:=by simp[z05,Nat.add_assoc]
 rw[if_pos rfl,if_neg (by simp only[List.length_append]; omega),List.drop_left,List.take_of_length_le (by omega)]
 rw[show A.length+(tgL g).length+(z0I x.length).length+(x.length:Int).toNat=A.length+(z05 g x).length by omega]
def AtH (a:AtT):Prop:=WfB a.2∧a.2.length≤1000000
theorem zjp {a:AtT} (hw:WfB a.2) (h:z1F a=true):z7w ((z1o a.1).1++a.2)=(a,0):=by
 unfold z1F at h
 rw[Bool.and_eq_true] at h
 have e:(z1o a.1).1=z05 (ofT 6) (z0v (z0Y a.1)):=by unfold z1o; rw[if_pos h.1]
 have h1:=zgs [] a.2 h.1
 rw[List.nil_append,List.length_nil,Nat.zero_add,←e] at h1
 have h2:=zjo (z1o a.1).1 hw h.2
 unfold z7w
 rw[h1]
 dsimp only
 rw[if_pos rfl,h2]
 dsimp only
 rw[if_pos rfl,if_neg (by simp)]
theorem zet {o:List Int} (h:z0W o=true):(z1o o).1.length≤500:=by
 unfold z1o
 rw[if_pos h]
 have:=z0s (ofT 6) (z0v (z0Y o))
 have:=z3N h
 dsimp only
 omega
theorem z5r {a:AtT} (h:z1F a=true):(atW a).length≤a.2.length+520:=by
 unfold z1F at h
 rw[Bool.and_eq_true] at h
 have:=zet h.1
 have:=z0s (ofT 16) ((z1o a.1).1++a.2)
 unfold atW
 rw[List.length_append] at*
 omega
theorem zjq (A C:List Int) {a:AtT} (hb:AtH a) (h:z1F a=true):z39 (A++(atW a++C)) A.length=(a,A.length+(atW a).length,0):=by
 have hi:=zjp hb.1 h
 have hl:=hb.2
 have ho:=zet (Bool.and_eq_true _ _▸h:z0W a.1=true∧z65 a.2=true).1
 have hop:=z3y A ((z1o a.1).1++a.2) C (ofT 16) (by decide) (by rw[List.length_append]; omega)
 change z0r (A++(atW a++C)) A.length (ofT 16)=(_,A.length+(atW a).length,0) at hop
 unfold z39
 rw[hop]
 dsimp only
 rw[if_pos rfl,hi]
theorem zbt:∀ {l:List AtT} {a:AtT} {r:List AtT},z25 (l++a::r)=true→l≠ []→z0z (atW (l.getLastD ([],[]))) (atW a)<0
 | [],_,_,_,h=>absurd rfl h
 | [b],a,r,h,_=>by
   simp only[List.cons_append,List.nil_append,z25,Bool.and_eq_true,decide_eq_true_eq] at h
   exact h.1
 | b::c::l,a,r,h,_=>by
   simp only[List.cons_append,z25,Bool.and_eq_true,decide_eq_true_eq] at h
   have:=zbt (l:=c::l) (a:=a) (r:=r) (by simpa using h.2) (by simp)
   simpa using this
theorem zd7 {x:List Int}:∀(ys:List AtT) (f p:Nat) (acc:List AtT),p≤x.length→x.length -p<f→(∀ a ∈ ys,AtH a∧z1F a=true)→z25 (acc++ys)=true→acc.length+ys.length≤16→acc++ys≠ []→x.drop p=ys.flatMap atW→z55 x f p acc=(acc++ys,0)
 | [],0,p,acc,_,hk,_,_,_,_,_=>by omega
 | [],f+1,p,acc,hp,hk,_,_,_,hn,hd=>by
   have:x.length≤p:=by simpa using hd
   rw[List.append_nil] at hn
   rw[z55,if_neg (by omega),if_neg hn,List.append_nil]
 | y::ys,0,p,acc,_,hk,_,_,_,_,_=>by omega
 | y::ys,f+1,p,acc,hp,hk,hy,hr,hl,_,hd=>by
   have hsp:x=x.take p++(atW y++ys.flatMap atW):=by
    rw[←List.flatMap_cons,←hd,List.take_append_drop]
   have hlp:(x.take p).length=p:=by simp; omega
   obtain⟨hy1,hy2⟩:=hy y (by simp)
   have hx:z39 x p=(y,p+(atW y).length,0):=by
    have:=zjq (x.take p) (ys.flatMap atW) hy1 hy2
    rwa[←hsp,hlp] at this
   have hge:0<(atW y).length:=z1n _ _
   have hll:=congrArg List.length hd
   rw[List.flatMap_cons,List.length_drop,List.length_append] at hll
   simp only[List.length_cons] at hl
   have hlt:acc≠ []→z0z (atW (acc.getLastD ([],[]))) (atW y)<0:=fun h=>zbt hr h
   rw[z55,if_pos (by omega),if_neg (by omega),hx]
   dsimp only
   rw[if_pos rfl,if_neg (fun h=>by have:=hlt h.1; omega),if_neg (fun h=>by have:=hlt h.1; omega)]
   have ih:=zd7 (x:=x) ys f (p+(atW y).length) (acc++ [y]) (by omega) (by omega) (fun e he=>hy e (by simp[he])) (by simpa using hr) (by simp; omega) (by simp) (by rw[←List.drop_drop,hd,List.flatMap_cons,List.drop_left])
   rw[ih]
   simp
theorem z3u {r:List AtT} (h:z0C r=true):r≠ []∧r.length≤16∧(∀ a ∈ r,z1F a=true)∧z25 r=true:=by
 unfold z0C at h
 simp only[Bool.and_eq_true,decide_eq_true_eq,List.all_eq_true] at h
 exact⟨fun e=>by rw[e] at h; simp at h,h.1.1.2,h.1.2,h.2⟩
theorem zd8 {α:Type} {f:α→List Int} {N:Nat}:∀ {l:List α},(∀ a ∈ l,(f a).length≤N)→(l.flatMap f).length≤l.length*N
 | [],_=>by simp
 | a::l,h=>by
   have:=zd8 (f:=f) fun b hb=>h b (List.mem_cons_of_mem _ hb)
   have:=h a (List.mem_cons_self ..)
   rw[List.flatMap_cons,List.length_append,List.length_cons,Nat.add_mul]
   omega
theorem zd9 (A C:List Int) {r:List AtT} (h:z0C r=true) (hb:∀ a ∈ r,AtH a):z2e (A++(z0g r++C)) A.length=(r,A.length+(z0g r).length,0):=by
 obtain⟨h1,h2,h3,h4⟩:=z3u h
 have hfl:(r.flatMap atW).length≤r.length*1000520:=zd8 fun a ha=>by
  have:=z5r (h3 a ha)
  have:=(hb a ha).2
  omega
 have hop:=z3y A (r.flatMap atW) C (ofT 17) (by decide) (by omega)
 change z0r (A++(z0g r++C)) A.length (ofT 17)=(_,A.length+(z0g r).length,0) at hop
 unfold z2e
 rw[hop]
 dsimp only
 rw[if_pos rfl,zd7 (x:=r.flatMap atW) r _ 0 [] (Nat.zero_le _) (by omega) (fun a ha=>⟨hb a ha,h3 a ha⟩) h4 (by simpa using h2) (by simpa using h1) rfl]
 rfl
def NmH (n:List (List AtT)):Prop:=∀ r ∈ n,∀ a ∈ r,AtH a
theorem zda {x:List Int}:∀(ys:List (List AtT)) (f p:Nat) (acc:List (List AtT)),p≤x.length→x.length -p<f→NmH ys→(∀ r ∈ ys,z0C r=true)→acc.length+ys.length≤64→x.drop p=ys.flatMap z0g→z56 x f p acc=(acc++ys,0)
 | [],0,p,acc,_,hk,_,_,_,_=>by omega
 | [],f+1,p,acc,hp,hk,_,_,_,hd=>by
   have:x.length≤p:=by simpa using hd
   rw[z56,if_neg (by omega),List.append_nil]
 | y::ys,0,p,acc,_,hk,_,_,_,_=>by omega
 | y::ys,f+1,p,acc,hp,hk,hb,hy,hl,hd=>by
   have hsp:x=x.take p++(z0g y++ys.flatMap z0g):=by
    rw[←List.flatMap_cons,←hd,List.take_append_drop]
   have hlp:(x.take p).length=p:=by simp; omega
   have hx:z2e x p=(y,p+(z0g y).length,0):=by
    have:=zd9 (x.take p) (ys.flatMap z0g) (hy y (by simp)) (hb y (by simp))
    rwa[←hsp,hlp] at this
   have hge:0<(z0g y).length:=z1n _ _
   have hll:=congrArg List.length hd
   rw[List.flatMap_cons,List.length_drop,List.length_append] at hll
   simp only[List.length_cons] at hl
   rw[z56,if_pos (by omega),if_neg (by omega),hx]
   dsimp only
   rw[if_pos rfl]
   have ih:=zda (x:=x) ys f (p+(z0g y).length) (acc++ [y]) (by omega) (by omega) (fun r hr=>hb r (by simp[hr])) (fun e he=>hy e (by simp[he])) (by simp; omega) (by rw[←List.drop_drop,hd,List.flatMap_cons,List.drop_left])
   rw[ih]
   simp
theorem za6 {n:List (List AtT)} (h:z15 n=true):n.length≤64∧∀ r ∈ n,z0C r=true:=by
 unfold z15 at h
 simp only[Bool.and_eq_true,decide_eq_true_eq,List.all_eq_true] at h
 exact h
theorem zjr (A C:List Int) {n:List (List AtT)} (h:z15 n=true) (hb:NmH n) (hl:(n.flatMap z0g).length≤16777216):z4Q (A++(z1S n++C)) A.length=(n,A.length+(z1S n).length,0):=by
 obtain⟨h1,h2⟩:=za6 h
 have hop:=z3y A (n.flatMap z0g) C (ofT 16) (by decide) hl
 change z0r (A++(z1S n++C)) A.length (ofT 16)=(_,A.length+(z1S n).length,0) at hop
 unfold z4Q
 rw[hop]
 dsimp only
 rw[if_pos rfl,zda (x:=n.flatMap z0g) n _ 0 [] (Nat.zero_le _) (by omega) hb h2 (by simpa using h1) rfl]
 rfl
theorem zjs {n:List (List AtT)} (h:z15 n=true) (hb:NmH n) (hl:(n.flatMap z0g).length≤16777216):z4J (z1S n)=(n,0):=by
 have:=zjr [] [] h hb hl
 simp only[List.nil_append,List.append_nil,List.length_nil,Nat.zero_add] at this
 unfold z4J
 rw[this]
 dsimp only
 rw[if_pos rfl,if_neg (by omega)]
def GnH (g:GnT):Prop:=WfB g.2.1∧g.2.1.length≤12000000∧NmH g.2.2∧(g.2.2.flatMap z0g).length≤16000000
theorem zhp {k:Int} {b:List Int} (h:z4d k b=true):0≤k∧k≤8∧k≠4:=by
 unfold z4d at h
 split at h
 ·omega
 ·split at h
  ·omega
  ·split at h
   ·omega
   ·split at h
    ·omega
    ·cases h
theorem z51 {g:GnT} (h:z0G g=true):0≤g.1∧g.1≤8∧(g.1=4→g.2.1= [])∧(g.1≠4→g.2.2= []):=by
 unfold z0G at h
 split at h
 ·rename_i h4
  simp only[Bool.and_eq_true,decide_eq_true_eq] at h
  exact⟨by omega,by omega,fun _=>List.eq_nil_of_length_eq_zero h.1,fun h5=>absurd h4 h5⟩
 ·rename_i h4
  simp only[Bool.and_eq_true,decide_eq_true_eq] at h
  have:=zhp h.2
  exact⟨this.1,this.2.1,fun h5=>absurd h5 h4,fun _=>List.eq_nil_of_length_eq_zero h.1⟩
theorem zeu {k:Int} (h0:0≤k) (h8:k≤8):z0q (2,k,z1K k)=true:=by
 unfold z0q
 simp
 omega
def z5u (g:GnT):List Int:=if g.1=4 then z1S g.2.2 else g.2.1
theorem zjt {g:GnT} (hb:GnH g):(z5u g).length≤16000020:=by
 have:=hb.2.1
 have:=hb.2.2.2
 have:=z0s (ofT 16) (g.2.2.flatMap z0g)
 unfold z5u z1S
 split<;>omega
theorem zju {g:GnT} (h:z0G g=true) (hb:GnH g):z6z g.1 (z5u g)=(g,0):=by
 obtain⟨h0,h8,h4,hn⟩:=z51 h
 obtain⟨k,b,n⟩:=g
 dsimp only at*
 unfold z6z z5u
 dsimp only
 by_cases hk:k=4
 ·subst hk
  obtain rfl:=h4 rfl
  have hnm:z15 n=true:=by
   unfold z0G at h
   simpa using h
  have:=zjs hnm hb.2.2.1 (by have:=hb.2.2.2; dsimp only at this; omega)
  rw[if_pos rfl,if_pos rfl,this]
  dsimp only
  rw[if_pos rfl,if_pos h]
 ·obtain rfl:=hn hk
  rw[if_neg hk,if_neg hk,if_pos h]
theorem zjv (A C:List Int) {g:GnT} (h:z0G g=true) (hb:GnH g):z2z (A++(z0l g++C)) A.length=(g,A.length+(z0l g).length,0):=by
 obtain⟨h0,h8,h4,hn⟩:=z51 h
 have hl:=zjt hb
 have hr:=z4h A (z5u g) C (2,g.1,z1K g.1) (zeu h0 h8) (by omega)
 change z0d (A++(z0l g++C)) A.length=_ at hr
 have hB:=zju h hb
 have hlen:(z0l g).length=(tgL (2,g.1,z1K g.1)).length+(z0I (z5u g).length).length+(z5u g).length:=by
  show(z05 _ (z5u g)).length=_
  simp[z05,Nat.add_assoc]
 have hcut:((A++(z0l g++C)).drop (A.length+(tgL (2,g.1,z1K g.1)).length+(z0I (z5u g).length).length)).take ((z5u g).length:Int).toNat=z5u g:=by
  show((A++(z05 _ (z5u g)++C)).drop _).take _=_
  rw[Nat.add_assoc,←List.drop_drop,List.drop_left,z05,List.append_assoc,←List.length_append,List.drop_left,Int.toNat_natCast,List.take_left]
 unfold z2z
 rw[hr]
 dsimp only
 rw[if_pos rfl,if_neg (by simp; omega),if_neg (by simp only[List.length_append]; omega),hcut,hB]
 dsimp only
 rw[hlen,Int.toNat_natCast]
 simp only[Prod.mk.injEq,true_and,and_true]
 omega
theorem zbu {x:List Int}:∀(ys:List GnT) (f p:Nat) (acc:List GnT),p≤x.length→x.length -p<f→(∀ g ∈ ys,GnH g∧z0G g=true)→acc.length+ys.length≤10000→x.drop p=ys.flatMap z0l→z3b x f p acc=(acc++ys,x.length,0)
 | [],0,p,acc,_,hk,_,_,_=>by omega
 | [],f+1,p,acc,hp,hk,_,_,hd=>by
   have:x.length≤p:=by simpa using hd
   rw[z3b,if_neg (by omega),List.append_nil,show p=x.length by omega]
 | y::ys,0,p,acc,_,hk,_,_,_=>by omega
 | y::ys,f+1,p,acc,hp,hk,hy,hl,hd=>by
   have hsp:x=x.take p++(z0l y++ys.flatMap z0l):=by
    rw[←List.flatMap_cons,←hd,List.take_append_drop]
   have hlp:(x.take p).length=p:=by simp; omega
   have hx:z2z x p=(y,p+(z0l y).length,0):=by
    have:=zjv (x.take p) (ys.flatMap z0l) (hy y (by simp)).2 (hy y (by simp)).1
    rwa[←hsp,hlp] at this
   have hge:0<(z0l y).length:=z1n _ _
   have hll:=congrArg List.length hd
   rw[List.flatMap_cons,List.length_drop,List.length_append] at hll
   simp only[List.length_cons] at hl
   rw[z3b,if_pos (by omega),if_neg (by omega),hx]
   dsimp only
   rw[if_pos rfl]
   have ih:=zbu (x:=x) ys f (p+(z0l y).length) (acc++ [y]) (by omega) (by omega) (fun e he=>hy e (by simp[he])) (by simp; omega) (by rw[←List.drop_drop,hd,List.flatMap_cons,List.drop_left])
   rw[ih]
   simp
theorem za7 {l:List GnT} (h:z1g l=true):0<l.length∧l.length≤10000∧∀ g ∈ l,z0G g=true:=by
 unfold z1g at h
 simp only[Bool.and_eq_true,decide_eq_true_eq,List.all_eq_true] at h
 exact⟨h.1.1,h.1.2,h.2⟩
theorem zbv {l:List GnT} (h:z1g l=true) (hb:∀ g ∈ l,GnH g):z16 (l.flatMap z0l)=(l,(l.flatMap z0l).length,0):=by
 obtain⟨h1,h2,h3⟩:=za7 h
 have hpos:¬ (l.flatMap z0l).length=0:=by
  match l,h1 with
  | g::l,_=>
    have:0<(z0l g).length:=z1n _ _
    rw[List.flatMap_cons,List.length_append]
    omega
 unfold z16
 rw[if_neg hpos,zbu (x:=l.flatMap z0l) l _ 0 [] (Nat.zero_le _) (by omega) (fun g hg=>⟨hb g hg,h3 g hg⟩) (by simpa using h2) rfl]
 rfl
end Go.Proofs.YtaagjnlkinojcaaGreat

/-
  Chapter 14: steps and names that are right, both sides. The conditions: rows that a machine can hold.
-/
import Derived.Test.YtaagjnlkinojcaaGreatN5
import Derived.Test.YtaagjnlkinojcaaGreatA6
import Derived.Test.YtaagjnlkinojcaaGreatO24
import Derived.Test.YtaagjnlkinojcaaGreatB16
namespace Go.Proofs.YtaagjnlkinojcaaGreat
set_option linter.unusedSimpArgs false
set_option linter.unusedVariables false
open Go Go.Sx
set_option maxRecDepth 10000
abbrev WhT:Type:=List GnT×List AtT
abbrev ScT:Type:=Option WhT×(Bool×Bool×Bool×Bool)×List Int
def z2Q (w:WhT):Bool:=if 0<w.2.length then decide (w.1.length=0)&&z0D w.2 else z1Z w.1
def z30 (lo:Int):List Int→Bool
 | []=>true
 | x::l=>decide (lo<x)&&decide (x≤8)&&z30 x l
def z0Z (l:List Int):Bool:=z30 (-1) l
def z5q:Option WhT→Bool
 | none=>true
 | some w=>z2Q w
def z7M (a b c:Bool):Int:=(if a then 1 else 0)+(if b then 1 else 0)+(if c then 1 else 0)
def z3E (s:ScT):Bool:=
 z5q s.1&&z0Z s.2.2&&decide (z7M s.2.1.1 s.2.1.2.1 s.2.1.2.2.2<2)&&(s.1.isSome||decide (0<s.2.2.length)||decide (0<z7M s.2.1.1 s.2.1.2.1 s.2.1.2.2.2)||s.2.1.2.2.1)
def z0l {α:Type} (z:α) (l:List Int) (p:Nat) (t:z0g) (rd:List Int→α×Nat×Int):α×Nat×Int:=
 if isH l p t=true then
  let r:=z0m l p t
  if r.2.2=0 then(let s:=rd r.1; if s.2.2=0 then(if s.2.1<r.1.length then(z,r.2.1,7) else(s.1,r.2.1,0)) else(z,r.2.1,s.2.2)) else(z,p,r.2.2)
 else(z,p,0)
def z3K (x:List Int):List AtT×Nat×Int:=((z1m (z04 (ofT 17) x) 0).1,x.length,(z1m (z04 (ofT 17) x) 0).2.2)
def z3L (x:List Int):Option WhT×Nat×Int:=
 let r:=z0a x 0
 if r.2.2=0 then
  if isH x 0 (2,0,true)=true then(let s:=z0l [] x 0 (2,0,true) z0Q; if s.2.2=0 then(some (s.1,[]),s.2.1,0) else(none,s.2.1,s.2.2))
  else if isH x 0 (2,1,true)=true then(let s:=z0l [] x 0 (2,1,true) z3K; if s.2.2=0 then(some ([],s.1),s.2.1,0) else(none,s.2.1,s.2.2))
  else(none,0,4)
 else(none,r.2.1,r.2.2)
def z1f (x:List Int):Bool×Nat×Int:=if x= [255] then(true,x.length,0) else(false,x.length,6)
def z2E (n:List Int) (i:Nat):Bool:=decide (n.getD (i/8) 0/2^(7 -i%8)%2=1)
def z4P (u:Int) (n:List Int):List Int×Int:=
 let k:=8*n.length -u.toNat
 if 32<k∨(0<k∧z2E n (k -1)=false) then([],6) else(((List.range k).filter (z2E n)).map fun(i:Nat)=>(i:Int),0)
def z2b (x:List Int):List Int×Nat×Int:=
 let s:=z3e x
 if s.2.2=true then(let f:=z4P s.1 s.2.1; if f.2=0∧f.1≠ []∧z0Z f.1=true then(f.1,x.length,0) else([],x.length,6)) else([],x.length,6)
theorem z7A (l:List Int):∀(n p:Nat) (acc:List (List Int)),(z11 l n p acc).2=0→acc.length≤(z11 l n p acc).1.length
 | 0,p,acc,_=>by simp[z11]
 | n+1,p,acc,h=>by
   rw[z11] at h ⊢
   by_cases c:l.length≤p
   ·rw[if_pos c]; exact Nat.le_refl _
   ·rw[if_neg c] at h ⊢
    by_cases e:¬ (z13 l p).2.2.2.1=0
    ·rw[if_pos e] at h; exact absurd h e
    ·rw[if_neg e] at h ⊢
     have:=z7A l n _ _ h
     simp at this
     omega
theorem zcs (l:List Int) (n p:Nat) (acc:List (List Int)) (h:(z11 l n p acc).2=0) (hp:p<l.length) (hn:0<n):acc.length+1≤(z11 l n p acc).1.length:=by
 obtain⟨k,rfl⟩:∃ k,n=k+1:=⟨n -1,by omega⟩
 rw[z11,if_neg (by omega)] at h ⊢
 by_cases e:¬ (z13 l p).2.2.2.1=0
 ·rw[if_pos e] at h; exact absurd h e
 ·rw[if_neg e] at h ⊢
  have:=z7A l k _ _ h
  simpa using this
theorem zct {m:List Int} (hw:WfB m) (h0:(z12 m 0).2=0) (h1:(z12 m 0).1.length<2) (hm:m≠ []):(z0a m 0).2.2=0∧(z0a m 0).1.2=(m.length:Int) -((z0a m 0).2.1:Int):=by
 have hpos:0<m.length:=by cases m with | nil=>exact absurd rfl hm | cons _ _=>simp
 have hle:=z17 m 0 (Nat.zero_le _)
 have hn0:=(z1V m 0 hw).1
 unfold z12 at h0 h1
 rw[z11,if_neg (by omega)] at h0 h1
 by_cases e:¬ (z13 m 0).2.2.2.1=0
 ·rw[if_pos e] at h0; exact absurd h0 e
 ·rw[if_neg e] at h0 h1
  have h2:¬ (z13 m 0).2.2.2.2<m.length:=by
   intro hq
   have:=zcs m m.length _ _ h0 hq hpos
   simp at this
   simp at h1
   omega
  unfold z13 at e h2
  by_cases c1:¬ (z0a m 0).2.2=0
  ·rw[if_pos c1] at e; exact absurd c1 e
  ·rw[if_neg c1] at e h2
   by_cases c2:(m.length:Int) -(z0a m 0).2.1<(z0a m 0).1.2
   ·rw[if_pos c2] at e; simp at e
   ·rw[if_neg c2] at e h2
    dsimp only at h2
    refine⟨by simpa using c1,?_⟩
    omega
theorem zim {t:List Int} (hw:WfB t) (h:z61 t=true):∃(g:z0g) (x:List Int),z0q g=true∧x.length≤16777216∧t=z04 g x:=by
 unfold z61 at h
 simp at h
 have hne:t≠ []:=by
  rintro rfl
  have:=h.2
  simp[z12,z11] at this
 obtain⟨h1,h2⟩:=zct hw h.1 (by rw[h.2]; omega) hne
 have hle:=z17 t 0 (Nat.zero_le _)
 have hb:=z6d (l:=t) (p:=0) (q:=(z0a t 0).2.1) (t:=(z0a t 0).1.1) (n:=(z0a t 0).1.2) hw (by rw[←h1])
 refine⟨(z0a t 0).1.1,t.drop (z0a t 0).2.1,hb.1,by simp; omega,?_⟩
 have e:=hb.2.2.2
 rw[List.drop_zero] at e
 have e2:(z0a t 0).1.2.toNat=(t.drop (z0a t 0).2.1).length:=by simp; omega
 rw[e2] at e
 rw[z04,List.append_assoc]
 exact e
theorem zin (A:List Int) {v:List Int} (hw:WfB v) (h:z61 v=true):z4q (A++v) A.length=(v,A.length+v.length,0):=by
 obtain⟨g,x,h1,h2,rfl⟩:=zim hw h
 have hr:=z4m A x [] g h1 h2
 rw[List.append_nil] at hr
 unfold z4q
 rw[hr]
 dsimp only
 have hlen:(z04 g x).length=(tgL g).length+(z0I x.length).length+x.length:=by simp[z04,Nat.add_assoc]
 rw[if_pos rfl,if_neg (by simp only[List.length_append]; omega),List.drop_left,List.take_of_length_le (by omega)]
 rw[show A.length+(tgL g).length+(z0I x.length).length+(x.length:Int).toNat=A.length+(z04 g x).length by omega]
def AtH (a:AtT):Prop:=WfB a.2∧a.2.length≤1000000
theorem zio {a:AtT} (hw:WfB a.2) (h:z1w a=true):z6q ((z1o a.1).1++a.2)=(a,0):=by
 unfold z1w at h
 rw[Bool.and_eq_true] at h
 have e:(z1o a.1).1=z04 (ofT 6) (z0v (z0Y a.1)):=by unfold z1o; rw[if_pos h.1]
 have h1:=zge [] a.2 h.1
 rw[List.nil_append,List.length_nil,Nat.zero_add,←e] at h1
 have h2:=zin (z1o a.1).1 hw h.2
 unfold z6q
 rw[h1]
 dsimp only
 rw[if_pos rfl,h2]
 dsimp only
 rw[if_pos rfl,if_neg (by simp)]
theorem zdV {o:List Int} (h:z0V o=true):(z1o o).1.length≤500:=by
 unfold z1o
 rw[if_pos h]
 have:=z0t (ofT 6) (z0v (z0Y o))
 have:=z3P h
 dsimp only
 omega
theorem z47 {a:AtT} (h:z1w a=true):(atW a).length≤a.2.length+520:=by
 unfold z1w at h
 rw[Bool.and_eq_true] at h
 have:=zdV h.1
 have:=z0t (ofT 16) ((z1o a.1).1++a.2)
 unfold atW
 rw[List.length_append] at*
 omega
theorem zip (A C:List Int) {a:AtT} (hb:AtH a) (h:z1w a=true):z2k (A++(atW a++C)) A.length=(a,A.length+(atW a).length,0):=by
 have hi:=zio hb.1 h
 have hl:=hb.2
 have ho:=zdV (Bool.and_eq_true _ _▸h:z0V a.1=true∧z61 a.2=true).1
 have hop:=z4Z A ((z1o a.1).1++a.2) C (ofT 16) (by decide) (by rw[List.length_append]; omega)
 change z0m (A++(atW a++C)) A.length (ofT 16)=(_,A.length+(atW a).length,0) at hop
 unfold z2k
 rw[hop]
 dsimp only
 rw[if_pos rfl,hi]
theorem zb2:∀ {l:List AtT} {a:AtT} {r:List AtT},z23 (l++a::r)=true→l≠ []→z0z (atW (l.getLastD ([],[]))) (atW a)<0
 | [],_,_,_,h=>absurd rfl h
 | [b],a,r,h,_=>by
   simp only[List.cons_append,List.nil_append,z23,Bool.and_eq_true,decide_eq_true_eq] at h
   exact h.1
 | b::c::l,a,r,h,_=>by
   simp only[List.cons_append,z23,Bool.and_eq_true,decide_eq_true_eq] at h
   have:=zb2 (l:=c::l) (a:=a) (r:=r) (by simpa using h.2) (by simp)
   simpa using this
theorem zcu {x:List Int}:∀(ys:List AtT) (f p:Nat) (acc:List AtT),p≤x.length→x.length -p<f→(∀ a ∈ ys,AtH a∧z1w a=true)→z23 (acc++ys)=true→acc.length+ys.length≤16→acc++ys≠ []→x.drop p=ys.flatMap atW→z43 x f p acc=(acc++ys,0)
 | [],0,p,acc,_,hk,_,_,_,_,_=>by omega
 | [],f+1,p,acc,hp,hk,_,_,_,hn,hd=>by
   have:x.length≤p:=by simpa using hd
   rw[List.append_nil] at hn
   rw[z43,if_neg (by omega),if_neg hn,List.append_nil]
 | y::ys,0,p,acc,_,hk,_,_,_,_,_=>by omega
 | y::ys,f+1,p,acc,hp,hk,hy,hr,hl,_,hd=>by
   have hsp:x=x.take p++(atW y++ys.flatMap atW):=by
    rw[←List.flatMap_cons,←hd,List.take_append_drop]
   have hlp:(x.take p).length=p:=by simp; omega
   obtain⟨hy1,hy2⟩:=hy y (by simp)
   have hx:z2k x p=(y,p+(atW y).length,0):=by
    have:=zip (x.take p) (ys.flatMap atW) hy1 hy2
    rwa[←hsp,hlp] at this
   have hge:0<(atW y).length:=z1U _ _
   have hll:=congrArg List.length hd
   rw[List.flatMap_cons,List.length_drop,List.length_append] at hll
   simp only[List.length_cons] at hl
   have hlt:acc≠ []→z0z (atW (acc.getLastD ([],[]))) (atW y)<0:=fun h=>zb2 hr h
   rw[z43,if_pos (by omega),if_neg (by omega),hx]
   dsimp only
   rw[if_pos rfl,if_neg (fun h=>by have:=hlt h.1; omega),if_neg (fun h=>by have:=hlt h.1; omega)]
   have ih:=zcu (x:=x) ys f (p+(atW y).length) (acc++ [y]) (by omega) (by omega) (fun e he=>hy e (by simp[he])) (by simpa using hr) (by simp; omega) (by simp) (by rw[←List.drop_drop,hd,List.flatMap_cons,List.drop_left])
   rw[ih]
   simp
theorem z3X {r:List AtT} (h:z0D r=true):r≠ []∧r.length≤16∧(∀ a ∈ r,z1w a=true)∧z23 r=true:=by
 unfold z0D at h
 simp only[Bool.and_eq_true,decide_eq_true_eq,List.all_eq_true] at h
 exact⟨fun e=>by rw[e] at h; simp at h,h.1.1.2,h.1.2,h.2⟩
theorem zcv {α:Type} {f:α→List Int} {N:Nat}:∀ {l:List α},(∀ a ∈ l,(f a).length≤N)→(l.flatMap f).length≤l.length*N
 | [],_=>by simp
 | a::l,h=>by
   have:=zcv (f:=f) fun b hb=>h b (List.mem_cons_of_mem _ hb)
   have:=h a (List.mem_cons_self ..)
   rw[List.flatMap_cons,List.length_append,List.length_cons,Nat.add_mul]
   omega
theorem zcw (A C:List Int) {r:List AtT} (h:z0D r=true) (hb:∀ a ∈ r,AtH a):z1m (A++(z0i r++C)) A.length=(r,A.length+(z0i r).length,0):=by
 obtain⟨h1,h2,h3,h4⟩:=z3X h
 have hfl:(r.flatMap atW).length≤r.length*1000520:=zcv fun a ha=>by
  have:=z47 (h3 a ha)
  have:=(hb a ha).2
  omega
 have hop:=z4Z A (r.flatMap atW) C (ofT 17) (by decide) (by omega)
 change z0m (A++(z0i r++C)) A.length (ofT 17)=(_,A.length+(z0i r).length,0) at hop
 unfold z1m
 rw[hop]
 dsimp only
 rw[if_pos rfl,zcu (x:=r.flatMap atW) r _ 0 [] (Nat.zero_le _) (by omega) (fun a ha=>⟨hb a ha,h3 a ha⟩) h4 (by simpa using h2) (by simpa using h1) rfl]
 rfl
def NmH (n:List (List AtT)):Prop:=∀ r ∈ n,∀ a ∈ r,AtH a
theorem zcx {x:List Int}:∀(ys:List (List AtT)) (f p:Nat) (acc:List (List AtT)),p≤x.length→x.length -p<f→NmH ys→(∀ r ∈ ys,z0D r=true)→acc.length+ys.length≤64→x.drop p=ys.flatMap z0i→z44 x f p acc=(acc++ys,0)
 | [],0,p,acc,_,hk,_,_,_,_=>by omega
 | [],f+1,p,acc,hp,hk,_,_,_,hd=>by
   have:x.length≤p:=by simpa using hd
   rw[z44,if_neg (by omega),List.append_nil]
 | y::ys,0,p,acc,_,hk,_,_,_,_=>by omega
 | y::ys,f+1,p,acc,hp,hk,hb,hy,hl,hd=>by
   have hsp:x=x.take p++(z0i y++ys.flatMap z0i):=by
    rw[←List.flatMap_cons,←hd,List.take_append_drop]
   have hlp:(x.take p).length=p:=by simp; omega
   have hx:z1m x p=(y,p+(z0i y).length,0):=by
    have:=zcw (x.take p) (ys.flatMap z0i) (hy y (by simp)) (hb y (by simp))
    rwa[←hsp,hlp] at this
   have hge:0<(z0i y).length:=z1U _ _
   have hll:=congrArg List.length hd
   rw[List.flatMap_cons,List.length_drop,List.length_append] at hll
   simp only[List.length_cons] at hl
   rw[z44,if_pos (by omega),if_neg (by omega),hx]
   dsimp only
   rw[if_pos rfl]
   have ih:=zcx (x:=x) ys f (p+(z0i y).length) (acc++ [y]) (by omega) (by omega) (fun r hr=>hb r (by simp[hr])) (fun e he=>hy e (by simp[he])) (by simp; omega) (by rw[←List.drop_drop,hd,List.flatMap_cons,List.drop_left])
   rw[ih]
   simp
theorem z9E {n:List (List AtT)} (h:z15 n=true):n.length≤64∧∀ r ∈ n,z0D r=true:=by
 unfold z15 at h
 simp only[Bool.and_eq_true,decide_eq_true_eq,List.all_eq_true] at h
 exact h
theorem ziq (A C:List Int) {n:List (List AtT)} (h:z15 n=true) (hb:NmH n) (hl:(n.flatMap z0i).length≤16777216):z2I (A++(z1M n++C)) A.length=(n,A.length+(z1M n).length,0):=by
 obtain⟨h1,h2⟩:=z9E h
 have hop:=z4Z A (n.flatMap z0i) C (ofT 16) (by decide) hl
 change z0m (A++(z1M n++C)) A.length (ofT 16)=(_,A.length+(z1M n).length,0) at hop
 unfold z2I
 rw[hop]
 dsimp only
 rw[if_pos rfl,zcx (x:=n.flatMap z0i) n _ 0 [] (Nat.zero_le _) (by omega) hb h2 (by simpa using h1) rfl]
 rfl
theorem zir {n:List (List AtT)} (h:z15 n=true) (hb:NmH n) (hl:(n.flatMap z0i).length≤16777216):z3v (z1M n)=(n,0):=by
 have:=ziq [] [] h hb hl
 simp only[List.nil_append,List.append_nil,List.length_nil,Nat.zero_add] at this
 unfold z3v
 rw[this]
 dsimp only
 rw[if_pos rfl,if_neg (by omega)]
def GnH (g:GnT):Prop:=WfB g.2.1∧g.2.1.length≤12000000∧NmH g.2.2∧(g.2.2.flatMap z0i).length≤16000000
theorem zgn {k:Int} {b:List Int} (h:z4g k b=true):0≤k∧k≤8∧k≠4:=by
 unfold z4g at h
 split at h
 ·omega
 ·split at h
  ·omega
  ·split at h
   ·omega
   ·split at h
    ·omega
    ·cases h
theorem z4Q {g:GnT} (h:z0F g=true):0≤g.1∧g.1≤8∧(g.1=4→g.2.1= [])∧(g.1≠4→g.2.2= []):=by
 unfold z0F at h
 split at h
 ·rename_i h4
  simp only[Bool.and_eq_true,decide_eq_true_eq] at h
  exact⟨by omega,by omega,fun _=>List.eq_nil_of_length_eq_zero h.1,fun h5=>absurd h4 h5⟩
 ·rename_i h4
  simp only[Bool.and_eq_true,decide_eq_true_eq] at h
  have:=zgn h.2
  exact⟨this.1,this.2.1,fun h5=>absurd h5 h4,fun _=>List.eq_nil_of_length_eq_zero h.1⟩
theorem zdW {k:Int} (h0:0≤k) (h8:k≤8):z0q (2,k,z1n k)=true:=by
 unfold z0q
 simp
 omega
def z5l (g:GnT):List Int:=if g.1=4 then z1M g.2.2 else g.2.1
theorem zis {g:GnT} (hb:GnH g):(z5l g).length≤16000020:=by
 have:=hb.2.1
 have:=hb.2.2.2
 have:=z0t (ofT 16) (g.2.2.flatMap z0i)
 unfold z5l z1M
 split<;>omega
theorem zit {g:GnT} (h:z0F g=true) (hb:GnH g):z5Z g.1 (z5l g)=(g,0):=by
 obtain⟨h0,h8,h4,hn⟩:=z4Q h
 obtain⟨k,b,n⟩:=g
 dsimp only at*
 unfold z5Z z5l
 dsimp only
 by_cases hk:k=4
 ·subst hk
  obtain rfl:=h4 rfl
  have hnm:z15 n=true:=by
   unfold z0F at h
   simpa using h
  have:=zir hnm hb.2.2.1 (by have:=hb.2.2.2; dsimp only at this; omega)
  rw[if_pos rfl,if_pos rfl,this]
  dsimp only
  rw[if_pos rfl,if_pos h]
 ·obtain rfl:=hn hk
  rw[if_neg hk,if_neg hk,if_pos h]
theorem ziu (A C:List Int) {g:GnT} (h:z0F g=true) (hb:GnH g):z1u (A++(z0r g++C)) A.length=(g,A.length+(z0r g).length,0):=by
 obtain⟨h0,h8,h4,hn⟩:=z4Q h
 have hl:=zis hb
 have hr:=z4m A (z5l g) C (2,g.1,z1n g.1) (zdW h0 h8) (by omega)
 change z0a (A++(z0r g++C)) A.length=_ at hr
 have hB:=zit h hb
 have hlen:(z0r g).length=(tgL (2,g.1,z1n g.1)).length+(z0I (z5l g).length).length+(z5l g).length:=by
  show(z04 _ (z5l g)).length=_
  simp[z04,Nat.add_assoc]
 have hcut:((A++(z0r g++C)).drop (A.length+(tgL (2,g.1,z1n g.1)).length+(z0I (z5l g).length).length)).take ((z5l g).length:Int).toNat=z5l g:=by
  show((A++(z04 _ (z5l g)++C)).drop _).take _=_
  rw[Nat.add_assoc,←List.drop_drop,List.drop_left,z04,List.append_assoc,←List.length_append,List.drop_left,Int.toNat_natCast,List.take_left]
 unfold z1u
 rw[hr]
 dsimp only
 rw[if_pos rfl,if_neg (by simp; omega),if_neg (by simp only[List.length_append]; omega),hcut,hB]
 dsimp only
 rw[hlen,Int.toNat_natCast]
 simp only[Prod.mk.injEq,true_and,and_true]
 omega
theorem zb3 {x:List Int}:∀(ys:List GnT) (f p:Nat) (acc:List GnT),p≤x.length→x.length -p<f→(∀ g ∈ ys,GnH g∧z0F g=true)→acc.length+ys.length≤10000→x.drop p=ys.flatMap z0r→z2O x f p acc=(acc++ys,x.length,0)
 | [],0,p,acc,_,hk,_,_,_=>by omega
 | [],f+1,p,acc,hp,hk,_,_,hd=>by
   have:x.length≤p:=by simpa using hd
   rw[z2O,if_neg (by omega),List.append_nil,show p=x.length by omega]
 | y::ys,0,p,acc,_,hk,_,_,_=>by omega
 | y::ys,f+1,p,acc,hp,hk,hy,hl,hd=>by
   have hsp:x=x.take p++(z0r y++ys.flatMap z0r):=by
    rw[←List.flatMap_cons,←hd,List.take_append_drop]
   have hlp:(x.take p).length=p:=by simp; omega
   have hx:z1u x p=(y,p+(z0r y).length,0):=by
    have:=ziu (x.take p) (ys.flatMap z0r) (hy y (by simp)).2 (hy y (by simp)).1
    rwa[←hsp,hlp] at this
   have hge:0<(z0r y).length:=z1U _ _
   have hll:=congrArg List.length hd
   rw[List.flatMap_cons,List.length_drop,List.length_append] at hll
   simp only[List.length_cons] at hl
   rw[z2O,if_pos (by omega),if_neg (by omega),hx]
   dsimp only
   rw[if_pos rfl]
   have ih:=zb3 (x:=x) ys f (p+(z0r y).length) (acc++ [y]) (by omega) (by omega) (fun e he=>hy e (by simp[he])) (by simp; omega) (by rw[←List.drop_drop,hd,List.flatMap_cons,List.drop_left])
   rw[ih]
   simp
theorem zfc {l:List GnT} (h:z1Z l=true):0<l.length∧l.length≤10000∧∀ g ∈ l,z0F g=true:=by
 unfold z1Z at h
 simp only[Bool.and_eq_true,decide_eq_true_eq,List.all_eq_true] at h
 exact⟨h.1.1,h.1.2,h.2⟩
theorem zgo {l:List GnT} (h:z1Z l=true) (hb:∀ g ∈ l,GnH g):z0Q (l.flatMap z0r)=(l,(l.flatMap z0r).length,0):=by
 obtain⟨h1,h2,h3⟩:=zfc h
 have hpos:¬ (l.flatMap z0r).length=0:=by
  match l,h1 with
  | g::l,_=>
    have:0<(z0r g).length:=z1U _ _
    rw[List.flatMap_cons,List.length_append]
    omega
 unfold z0Q
 rw[if_neg hpos,zb3 (x:=l.flatMap z0r) l _ 0 [] (Nat.zero_le _) (by omega) (fun g hg=>⟨hb g hg,h3 g hg⟩) (by simpa using h2) rfl]
 rfl
end Go.Proofs.YtaagjnlkinojcaaGreat
namespace Go.Proofs.YtaagjnlkinojcaaGreat
set_option linter.unusedSimpArgs false
set_option linter.unusedVariables false
open Go.Sx
set_option maxRecDepth 10000
abbrev atD:AtT:=([],[])
abbrev z2g (r:List AtT):Leaf:= .recs 2 (r.map atL)
abbrev z39 (r:List AtT):Av:= .c (.lf (z2g r))
abbrev nmL (n:List (List AtT)):Leaf:= .recs 1 (n.map fun r=> [z2g r])
abbrev nmV (n:List (List AtT)):Av:= .c (.lf (nmL n))
theorem zcy:∀(r:List AtT),z23 r=true↔∀ i,i+1<r.length→z0z (atW (r.getD i atD)) (atW (r.getD (i+1) atD))<0
 | []=>by simp[z23]
 | [a]=>by simp[z23]
 | a::b::l=>by
   have ih:=zcy (b::l)
   rw[z23,Bool.and_eq_true,decide_eq_true_eq,ih]
   constructor
   ·rintro⟨h1,h2⟩ i hi
    cases i with
    | zero=>exact h1
    | succ i=>exact h2 i (by simpa using hi)
   ·intro h
    exact⟨h 0 (by simp),fun i hi=>h (i+1) (by simpa using hi)⟩
theorem z9c {α:Type} {l:List α} {i:Nat} {d:α} (h:i<l.length):l.take (i+1)=l.take i++ [l.getD i d]:=by
 rw[List.take_add_one,List.getD_eq_getElem?_getD,List.getElem?_eq_getElem h]
 rfl
def zfd (r:List AtT) (i:Nat):Prop:=∀ j,j<i→z1w (r.getD j atD)=true∧(0<j→z0z (atW (r.getD (j -1) atD)) (atW (r.getD j atD))<0)
theorem z5r (r:List AtT):z0D r=true↔(1≤r.length∧r.length≤16)∧zfd r r.length:=by
 unfold z0D zfd
 simp only[Bool.and_eq_true,decide_eq_true_eq,List.all_eq_true,zcy]
 constructor
 ·rintro⟨⟨h1,h2⟩,h3⟩
  refine⟨h1,fun j hj=>⟨?_,fun h0=>?_⟩⟩
  ·rw[List.getD_eq_getElem?_getD,List.getElem?_eq_getElem hj]
   exact h2 _ (List.getElem_mem hj)
  ·have:=h3 (j -1) (by omega)
   rwa[show j -1+1=j by omega] at this
 ·rintro⟨h1,h2⟩
  refine⟨⟨h1,fun a ha=>?_⟩,fun i hi=>(h2 (i+1) hi).2 (by omega)⟩
  obtain⟨j,hj,rfl⟩:=List.mem_iff_getElem.1 ha
  have:=(h2 j hj).1
  rwa[List.getD_eq_getElem?_getD,List.getElem?_eq_getElem hj] at this
theorem z8q {r:List AtT} (h:∀ a ∈ r,AtB a) {i:Nat} (hi:i<r.length):AtB (r.getD i atD):=by
 rw[List.getD_eq_getElem?_getD,List.getElem?_eq_getElem hi]
 exact h _ (List.getElem_mem hi)
set_option maxHeartbeats 8000000 in
theorem z8P (r:List AtT) (hb1:∀ a ∈ r,AtB a) (hl:r.length≤16000000):Ct Tryz.prog 178 [z39 r] [] (.tup [z2J (if z0D r=true then r.map atW else []),lv (.bool (z0D r))]) [] []:=by
 have hml:(r.map atL).length=r.length:=List.length_map ..
 by_cases h1:r.length=0
 ·obtain rfl:=List.eq_nil_of_length_eq_zero h1
  refine z00 Tryz.func178 rfl rfl rfl rfl rfl (fun E hn hb=>?_)
  repeat refine nx ?_
  exact rtU []
 by_cases h16:16<r.length
 ·have hS:z0D r=false:=by
   rw[Bool.eq_false_iff]
   intro h
   have:=((z5r r).1 h).1
   omega
  rw[hS,if_neg (by simp)]
  refine z00 Tryz.func178 rfl rfl rfl rfl rfl (fun E hn hb=>?_)
  repeat refine nx ?_
  exact rtU []
 refine z00 Tryz.func178 rfl rfl rfl rfl rfl (fun E hn hb=>?_)
 repeat refine nx ?_
 refine z06 rfl (by simp) (fun hc=>?_) (fun hc=>?_)
 ·exfalso
  rw[hml,show((r.length:Int)==0)=false by rw[beq_eq_false_iff_ne]; omega,show decide ((16:Int)<(r.length:Int))=false by rw[decide_eq_false_iff_not]; omega] at hc
  cases hc
 clear hc
 repeat refine nx ?_
 rw[hml]
 have hS0:=z5r r
 generalize z0D r=S at*
 refine z0N 4 900 1 (.recs 1 []) rfl rfl (.inr (.inr ⟨_,rfl⟩)) ?_
 refine z09 (St.le_of (l:= [(4,.c (.own 900 1 0 (z26 ((r.take 0).map atW)).length)),(16,z39 r),(17,lv (.int .i64 (r.length:Int))),(18,lv (.int .i64 ((0:Nat):Int)))]) (h:= [(900,.row (.recs 1 (z26 ((r.take 0).map atW))))]) (by refine⟨?_,?_⟩<;>(repeat' (first | exact trivial | exact rfl | refine⟨?_,?_⟩))<;>first | exact rfl |(simp; done) | skip)) ?_
 refine z0h (ι:= {i:Nat//i≤r.length∧zfd r i}) (fun i=>St.of [(4,.c (.own 900 1 0 (z26 ((r.take i.1).map atW)).length)),(16,z39 r),(17,lv (.int .i64 (r.length:Int))),(18,lv (.int .i64 (i.1:Int)))] [(900,.row (.recs 1 (z26 ((r.take i.1).map atW))))]) (fun i=>r.length -i.1) (fun i=>?_) ⟨0,Nat.zero_le _,fun j hj=>by omega⟩
 obtain⟨i,hi,hu⟩:=i
 dsimp only
 by_cases hi2:i<r.length
 ·have hq:r.getD (i:Int).toNat default=r.getD i atD:=rfl
  have hb2:=z8q hb1 hi2
  have hw:=zd9 _ hb2
  have hwn:=zjh _ hb2
  by_cases ha:z1w (r.getD i atD)=true
  ·have hw:=hw ha
   clear hwn
   by_cases h0:i=0
   ·subst h0
    generalize hA:r.getD 0 atD=a at*
    have hne:(atW a).length≠0:=by have:=z1U (ofT 16) ((z1o a.1).1++a.2); unfold atW; omega
    have hnx:(r.take 1).map atW= [atW a]:=by rw[z9c (d:=atD) hi2,List.take_zero,List.nil_append,List.map_singleton]; exact congrArg (fun x=> [atW x]) hA
    generalize atW a=X at*
    obtain⟨o,v⟩:=a
    repeat (first | refine nx ?_ | rw[hq])
    refine z9V (neg:=false) rfl rfl (by rw[hn]; rfl) Tryz.underlying28 rfl (by simp) (by simp[szD]) (fun b hb0=>?_)
    simp only[z0f] at hb0
    cases b with
    | true=>exact absurd (hb0 rfl) hne
    | false=>
      repeat refine nx ?_
      refine wgF (lv (.int .i64 0)) hn ?_
      repeat refine nx ?_
      refine z07 ⟨1,hi2,fun j hj=>by obtain rfl:j=0:=by omega
                                     rw[hA]; exact⟨ha,fun h=>absurd h (by omega)⟩⟩ (by dsimp only; omega) (St.le_of ⟨⟨?_,rfl,rfl,rfl⟩,?_⟩)
      ·rw[hnx]; rfl
      ·rw[hnx]; rfl
   ·have hcm:=z6c (atW (r.getD (i -1) atD)) (atW (r.getD i atD)) (by have:=z47 (hu (i -1) (by omega)).1; have:=(z8q hb1 (show i -1<r.length by omega)).l; omega) (by have:=z47 ha; have:=hb2.l; omega)
    have hq2:((r.take i).map atW).getD (0+((i:Int) -1).toNat) []=atW (r.getD (i -1) atD):=by
     rw[show 0+((i:Int) -1).toNat=i -1 by omega,List.getD_eq_getElem?_getD,List.getElem?_map,List.getElem?_take,if_pos (by omega),List.getD_eq_getElem?_getD,List.getElem?_eq_getElem (by omega:i -1<r.length)]
     rfl
    have hnx:(r.take (i+1)).map atW=(r.take i).map atW++ [atW (r.getD i atD)]:=by rw[z9c (d:=atD) hi2,List.map_append]; rfl
    have hne:(atW (r.getD i atD)).length≠0:=by have:=z1U (ofT 16) ((z1o (r.getD i atD).1).1++(r.getD i atD).2); unfold atW; omega
    generalize hA:r.getD i atD=a at*
    generalize hX:atW a=X at*
    generalize hY:atW (r.getD (i -1) atD)=Y at*
    obtain⟨o,v⟩:=a
    repeat (first | refine nx ?_ | rw[hq])
    refine z9V (neg:=false) rfl rfl (by rw[hn]; rfl) Tryz.underlying28 rfl (by simp) (by simp[szD]) (fun b hb0=>?_)
    simp only[z0f] at hb0
    cases b with
    | true=>exact absurd (hb0 rfl) hne
    | false=>
      repeat (first | refine nx ?_ | rw[hq2])
      refine z06 rfl (by simp) (fun hc=>?_) (fun hc=>?_)
      ·have hS:S=false:=by
        rw[Bool.eq_false_iff]
        intro h
        have:=((hS0.1 h).2 i hi2).2 (by omega)
        rw[hY,hA,hX] at this
        simp at hc
        omega
       subst hS
       repeat refine nx ?_
       exact rtU []
      ·repeat refine nx ?_
       refine z07 ⟨i+1,hi2,fun j hj=>by
        by_cases e:j=i
        ·subst e
         rw[hA,hY,hX]
         simp at hc
         exact⟨ha,fun _=>by omega⟩
        ·exact hu j (by omega)⟩ (by dsimp only; omega) (St.le_of ⟨⟨?_,rfl,rfl,rfl⟩,?_⟩)
       ·rw[hnx]; simp; rfl
       ·rw[hnx]; simp; rfl
  ·have hwn:=hwn (by simpa using ha)
   have hS:S=false:=by
    rw[Bool.eq_false_iff]
    intro h
    exact ha ((hS0.1 h).2 i hi2).1
   subst hS
   clear hw ha hb2 hS0
   generalize r.getD i atD=a at*
   obtain⟨o,v⟩:=a
   repeat (first | refine nx ?_ | rw[hq])
   refine wgF (lv (.int .i64 0)) hn ?_
   repeat refine nx ?_
   exact rtU []
 ·obtain rfl:i=r.length:=by omega
  have hS:S=true:=hS0.2 ⟨⟨by omega,by omega⟩,hu⟩
  subst hS
  rw[List.take_length]
  repeat refine nx ?_
  refine z2d 2 ?_
  exact rt1 []
end Go.Proofs.YtaagjnlkinojcaaGreat

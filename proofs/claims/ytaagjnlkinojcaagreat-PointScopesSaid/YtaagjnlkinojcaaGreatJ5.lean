/-
  Chapter 16: places, names, truths written by the program into a sheet. The conditions: right ones, rows that a machine can hold.
-/
import Derived.Test.YtaagjnlkinojcaaGreatSxA
import Derived.Test.YtaagjnlkinojcaaGreatQ3
import Derived.Test.YtaagjnlkinojcaaGreatE7
import Derived.Test.YtaagjnlkinojcaaGreatJ9
import Derived.Test.YtaagjnlkinojcaaGreatSxF
import Derived.Test.YtaagjnlkinojcaaGreatJ2
import Derived.Test.YtaagjnlkinojcaaGreatQ23
namespace Go.Proofs.YtaagjnlkinojcaaGreat
set_option linter.unusedSimpArgs false
set_option linter.unusedVariables false
open Go.Sx
set_option maxRecDepth 10000
abbrev big:Nat:=9223372036854775807
abbrev zaM (n:Int) (l:List Int):List Int:=l.take (min (l.length:Int) n).toNat
abbrev atT (a:AtT):AtT:=(zaM 40 a.1,zaM 200 a.2)
def stT (r:List AtT):List AtT:=(r.take 20).map atT
def nmT (n:List (List AtT)):List (List AtT):=(n.take 70).map stT
def zdj (n:List (List AtT)):List (List AtT):=n.take (min (n.length:Int) 5).toNat
abbrev z7t (g:GnT):GnT:=(g.1,zaM 300 g.2.1,nmT (zdj g.2.2))
def z4K (l:List GnT):List GnT:=(l.take 20).map z7t
def zdk (t:Bool) (w:WhT):Option WhT:=if t=true then some (z4K w.1,stT w.2) else none
structure AtI (a:AtT):Prop where
 o:a.1.length≤big
 l:a.2.length≤big
 w:WfB a.2
def StI (r:List AtT):Prop:=r.length≤big∧∀ a ∈ r,AtI a
def NmI (n:List (List AtT)):Prop:=n.length≤big∧∀ r ∈ n,StI r
structure GnI (g:GnT):Prop where
 l:g.2.1.length≤big
 w:WfB g.2.1
 n:NmI g.2.2
def zjB (l:List GnT):Prop:=l.length≤big∧∀ g ∈ l,GnI g
theorem z5D {α β:Type} (f:α→β) (l:List α) (a:α):(l++ [a]).map f=l.map f++ [f a]:=List.map_append
set_option maxHeartbeats 8000000 in
theorem zbG (r:List AtT) (h:StI r):Ct Tryz.prog 69 [z39 r] [] (z39 (stT r)) [] []:=by
 have hms:(r.map atL).length=r.length:=List.length_map ..
 have hrl:=h.1
 refine z00 Tryz.func69 rfl rfl rfl rfl rfl (fun E hn hb=>?_)
 repeat refine nx ?_
 refine z0N 3 900 2 (.recs 2 []) rfl rfl (.inr (.inr ⟨_,rfl⟩)) ?_
 refine z09 (St.le_of (l:= [(0,z39 r),(3,.c (.own 900 2 0 (((r.take 0).map atT).map atL).length)),(4,lv (.int .i64 ((0:Nat):Int)))]) (h:= [(900,.row (.recs 2 (((r.take 0).map atT).map atL)))]) (by refine⟨?_,?_⟩<;>(repeat' (first | exact trivial | exact rfl | refine⟨?_,?_⟩))<;>first | exact rfl |(simp; done) | skip)) ?_
 refine z0h (ι:= {i:Nat//i≤r.length∧i≤20}) (fun i=>St.of [(0,z39 r),(3,.c (.own 900 2 0 (((r.take i.1).map atT).map atL).length)),(4,lv (.int .i64 (i.1:Int)))] [(900,.row (.recs 2 (((r.take i.1).map atT).map atL)))]) (fun i=>20 -i.1) (fun i=>?_) ⟨0,Nat.zero_le _,Nat.zero_le _⟩
 obtain⟨i,hi,hi20⟩:=i
 dsimp only
 have hmt:(((r.take i).map atT).map atL).length=i:=by rw[List.length_map,List.length_map,List.length_take]; omega
 by_cases hc:i<r.length∧i<20
 ·obtain⟨hc1,hc2⟩:=hc
  have hq:r.getD (i:Int).toNat default=r.getD i atD:=rfl
  have hab:=h.2 _ (z1S (d:=atD) hc1)
  have hsn:=z2j (d:=atD) hc1
  generalize r.getD i atD=a at*
  obtain⟨o,v⟩:=a
  have ho:=hab.o
  have hv:=hab.l
  dsimp only at ho hv
  repeat (first | refine nxw ?_ | rw[hq])
  refine duF [101] [(17,101),(17,900)] ?_
  repeat (first | refine nx ?_ | rw[hq])
  refine z4i (fun a w h=>SR.mv 101 900 rfl rfl rfl rfl rfl h) ?_
  refine z07 ⟨i+1,by omega,by omega⟩ (by dsimp only; omega) (St.le_of ⟨⟨rfl,?_,rfl⟩,?_⟩)
  ·dsimp only; rw[hsn,z5D,z4U]; rfl
  ·dsimp only; rw[hsn,z5D,z4U]; rfl
 ·have e:r.take i=r.take 20:=by
   rcases Nat.lt_or_ge i r.length with h1 | h1
   ·obtain rfl:i=20:=by omega
    rfl
   ·rw[List.take_of_length_le h1,List.take_of_length_le (by omega)]
  rw[e]
  by_cases h1:i<r.length
  ·repeat refine nx ?_
   refine z2d 2 ?_
   exact rt1 []
  ·repeat refine nx ?_
   refine z2d 2 ?_
   exact rt1 []
set_option maxHeartbeats 8000000 in
theorem zhx (n:List (List AtT)) (h:NmI n):Ct Tryz.prog 22 [nmV n] [] (nmV (nmT n)) [] []:=by
 have hms:(nmR n).length=n.length:=List.length_map ..
 have hrl:=h.1
 refine z00 Tryz.func22 rfl rfl rfl rfl rfl (fun E hn hb=>?_)
 repeat refine nx ?_
 refine z0N 3 900 1 (.recs 1 []) rfl rfl (.inr (.inr ⟨_,rfl⟩)) ?_
 refine z09 (St.le_of (l:= [(0,nmV n),(3,.c (.own 900 1 0 (nmR ((n.take 0).map stT)).length)),(4,lv (.int .i64 ((0:Nat):Int)))]) (h:= [(900,.row (.recs 1 (nmR ((n.take 0).map stT))))]) (by refine⟨?_,?_⟩<;>(repeat' (first | exact trivial | exact rfl | refine⟨?_,?_⟩))<;>first | exact rfl |(simp; done) | skip)) ?_
 refine z0h (ι:= {i:Nat//i≤n.length∧i≤70}) (fun i=>St.of [(0,nmV n),(3,.c (.own 900 1 0 (nmR ((n.take i.1).map stT)).length)),(4,lv (.int .i64 (i.1:Int)))] [(900,.row (.recs 1 (nmR ((n.take i.1).map stT))))]) (fun i=>70 -i.1) (fun i=>?_) ⟨0,Nat.zero_le _,Nat.zero_le _⟩
 obtain⟨i,hi,hi70⟩:=i
 dsimp only
 have hmt:(nmR ((n.take i).map stT)).length=i:=by rw[List.length_map,List.length_map,List.length_take]; omega
 by_cases hc:i<n.length∧i<70
 ·obtain⟨hc1,hc2⟩:=hc
  have hq:n.getD (i:Int).toNat []=n.getD i []:=rfl
  have hof:=zbG _ (h.2 _ (z1S (d:= []) hc1))
  have hsn:=z2j (d:= []) hc1
  generalize n.getD i []=r at*
  repeat (first | refine nx ?_ | rw[hq])
  refine z07 ⟨i+1,by omega,by omega⟩ (by dsimp only; omega) (St.le_of ⟨⟨rfl,?_,rfl⟩,?_⟩)
  ·dsimp only; rw[hsn,z5D,z6f]; rfl
  ·dsimp only; rw[hsn,z5D,z6f]; rfl
 ·have e:n.take i=n.take 70:=by
   rcases Nat.lt_or_ge i n.length with h1 | h1
   ·obtain rfl:i=70:=by omega
    rfl
   ·rw[List.take_of_length_le h1,List.take_of_length_le (by omega)]
  rw[e]
  by_cases h1:i<n.length
  ·repeat refine nx ?_
   refine z2d 2 ?_
   exact rt1 []
  ·repeat refine nx ?_
   refine z2d 2 ?_
   exact rt1 []
theorem zhy {n:List (List AtT)} (h:NmI n):NmI (zdj n):=
 ⟨Nat.le_trans (List.length_take_le' ..) h.1,fun r hr=>h.2 r (List.mem_of_mem_take hr)⟩
set_option maxHeartbeats 8000000 in
theorem zjC (g:GnT) (h:GnI g):Ct Tryz.prog 131 [gnA g] [] (gnA (z7t g)) [] []:=by
 have hof:=zhx _ (zhy h.n)
 have hbl:=h.l
 have hnl:=h.n.1
 obtain⟨k,b,n⟩:=g
 dsimp only at hof hbl hnl
 have hms:(nmR n).length=n.length:=List.length_map ..
 have e: .recs 1 ((nmR n).take (min ((nmR n).length:Int) 5).toNat)=nmL (zdj n):=by rw[hms,←List.map_take]; rfl
 rw[nmV,←e] at hof
 refine z00 Tryz.func131 rfl rfl rfl rfl rfl (fun E hn hb=>?_)
 repeat refine nx ?_
 exact rt1 []
theorem zjD (l:List GnT) (h:zjB l):Ct Tryz.prog 68 [gnV l] [] (gnV (z4K l)) [] []:=by
 have hml:(gnR l).length=l.length:=List.length_map ..
 have hll:=h.1
 refine z00 Tryz.func68 rfl rfl rfl rfl rfl (fun E hn hb=>?_)
 repeat refine nx ?_
 refine z0N 3 900 3 (.recs 3 []) rfl rfl (.inr (.inr ⟨_,rfl⟩)) ?_
 refine z09 (St.le_of (l:= [(0,gnV l),(3,.c (.own 900 3 0 (gnR ((l.take 0).map z7t)).length)),(4,lv (.int .i64 ((0:Nat):Int)))]) (h:= [(900,.row (.recs 3 (gnR ((l.take 0).map z7t))))]) (by refine⟨?_,?_⟩<;>(repeat' (first | exact trivial | exact rfl | refine⟨?_,?_⟩))<;>first | exact rfl |(simp; done) | skip)) ?_
 refine z0h (ι:= {i:Nat//i≤l.length∧i≤20}) (fun i=>St.of [(0,gnV l),(3,.c (.own 900 3 0 (gnR ((l.take i.1).map z7t)).length)),(4,lv (.int .i64 (i.1:Int)))] [(900,.row (.recs 3 (gnR ((l.take i.1).map z7t))))]) (fun i=>20 -i.1) (fun i=>?_) ⟨0,Nat.zero_le _,Nat.zero_le _⟩
 obtain⟨i,hi,hi20⟩:=i
 dsimp only
 have hmt:(gnR ((l.take i).map z7t)).length=i:=by rw[List.length_map,List.length_map,List.length_take]; omega
 by_cases hc:i<l.length∧i<20
 ·obtain⟨hc1,hc2⟩:=hc
  have hq:l.getD (i:Int).toNat default=l.getD i gn0:=rfl
  have hof:=zjC _ (h.2 _ (z1S (d:=gn0) hc1))
  have hsn:=z2j (d:=gn0) hc1
  generalize l.getD i gn0=g at*
  obtain⟨k,b,n⟩:=g
  repeat (first | refine nx ?_ | rw[hq])
  refine z07 ⟨i+1,by omega,by omega⟩ (by dsimp only; omega) (St.le_of ⟨⟨rfl,?_,rfl⟩,?_⟩)
  ·dsimp only; rw[hsn,z5D,z3S]; rfl
  ·dsimp only; rw[hsn,z5D,z3S]; rfl
 ·have e:l.take i=l.take 20:=by
   rcases Nat.lt_or_ge i l.length with h1 | h1
   ·obtain rfl:i=20:=by omega
    rfl
   ·rw[List.take_of_length_le h1,List.take_of_length_le (by omega)]
  rw[e]
  by_cases h1:i<l.length
  ·repeat refine nx ?_
   refine z2d 2 ?_
   exact rt1 []
  ·repeat refine nx ?_
   refine z2d 2 ?_
   exact rt1 []
structure WhI (w:WhT):Prop where
 g:zjB w.1
 s:StI w.2
theorem zfO (t:Bool) (w:WhT) (h:WhI w):Ct Tryz.prog 21 [rwA t w] [] (wpV (zdk t w)) [] []:=by
 have h1:=zjD _ h.g
 have h2:=zbG _ h.s
 obtain⟨g,s⟩:=w
 dsimp only at h1 h2
 cases t
 ·refine z00 Tryz.func21 rfl rfl rfl rfl rfl (fun E hn hb=>?_)
  repeat refine nx ?_
  exact rt1 []
 ·refine z00 Tryz.func21 rfl rfl rfl rfl rfl (fun E hn hb=>?_)
  repeat (first | refine nxw ?_ | refine duF [77] [(7,77)] ?_)
  repeat (first | refine nx ?_ | refine zxd hn ?_)
  refine z4i (fun a w h=>SR.frp 2 (ls:= [.recs 3 (gnR (z4K g)),z2g (stT s)]) rfl rfl hb rfl rfl h) ?_
  exact rt1 []
end Go.Proofs.YtaagjnlkinojcaaGreat
namespace Go.Proofs.YtaagjnlkinojcaaGreat
set_option linter.unusedSimpArgs false
set_option linter.unusedVariables false
open Go Go.Sx
set_option maxRecDepth 10000
theorem zai {α:Type} (f:α→List Int) (B:Nat):∀ l:List α,(∀ x ∈ l,(f x).length≤B)→(l.flatMap f).length≤l.length*B
 | [],_=>by simp
 | a::l,h=>by
   have h1:=h a (List.mem_cons_self ..)
   have h2:=zai f B l fun x hx=>h x (List.mem_cons_of_mem _ hx)
   rw[List.flatMap_cons,List.length_append,List.length_cons,Nat.add_mul]
   omega
theorem zpK {a:AtT} (h:z1w a=true) (hl:a.2.length≤200):(atW a).length≤450:=by
 unfold z1w at h
 rw[Bool.and_eq_true] at h
 have h1:=z3P h.1
 have h2:=z0t (ofT 6) (z0v (z0Y a.1))
 have h3:=z0t (ofT 16) ((z1o a.1).1++a.2)
 have e:(z1o a.1).1=z04 (ofT 6) (z0v (z0Y a.1)):=by unfold z1o; rw[if_pos h.1]
 unfold atW
 rw[e] at h3 ⊢
 rw[List.length_append] at h3
 omega
theorem zdl {r:List AtT} (h:z0D r=true) (hl:∀ a ∈ r,a.2.length≤200):(z0i r).length≤7300:=by
 unfold z0D at h
 simp only[Bool.and_eq_true,decide_eq_true_iff,List.all_eq_true] at h
 obtain⟨⟨⟨h1,h2⟩,h3⟩,h4⟩:=h
 have h5:=zai atW 450 r fun a ha=>zpK (h3 a ha) (hl a ha)
 have h6:=z0t (ofT 17) (r.flatMap atW)
 have h7:r.length*450≤16*450:=Nat.mul_le_mul_right _ h2
 unfold z0i
 omega
theorem zjE {n:List (List AtT)} {m:Nat} (hm:n.length≤m) (h:∀ r ∈ n,z0D r=true) (hl:∀ r ∈ n,∀ a ∈ r,a.2.length≤200):(n.flatMap z0i).length≤m*7300:=by
 have h5:=zai z0i 7300 n fun r hr=>zdl (h r hr) (hl r hr)
 exact Nat.le_trans h5 (Nat.mul_le_mul_right _ hm)
theorem z7u {n:List (List AtT)} (h:z15 n=true):n.length≤64∧∀ r ∈ n,z0D r=true:=by
 unfold z15 at h
 rwa[Bool.and_eq_true,decide_eq_true_iff,List.all_eq_true] at h
structure GnS (g:GnT):Prop where
 b:g.2.1.length≤300
 n:g.2.2.length≤5
 a:∀ r ∈ g.2.2,∀ a ∈ r,a.2.length≤200
theorem zex {g:GnT} (h:z0F g=true) (hs:GnS g):(g.2.2.flatMap z0i).length≤36500:=by
 obtain⟨h1,h2,h3,h4⟩:=z4Q h
 by_cases hk:g.1=4
 ·have hno:z15 g.2.2=true:=by
   unfold z0F at h
   rw[if_pos hk,Bool.and_eq_true] at h
   exact h.2
  exact zjE hs.n (z7u hno).2 hs.a
 ·rw[h4 hk]
  exact Nat.zero_le _
theorem zlb {g:GnT} (h:z0F g=true) (hs:GnS g):(z0r g).length≤36600:=by
 have h1:=zex h hs
 have h2:=z0t (ofT 16) (g.2.2.flatMap z0i)
 have h3:=z0t (2,g.1,z1n g.1) (if g.1=4 then z1M g.2.2 else g.2.1)
 have h4:=hs.b
 unfold z0r
 split at h3
 ·rw[if_pos ‹_›]
  unfold z1M at*
  omega
 ·rw[if_neg ‹_›]
  omega
theorem zdm {l:List GnT} (h:∀ g ∈ l,z0F g=true) (hl:l.length≤20) (hs:∀ g ∈ l,GnS g):(l.flatMap z0r).length≤732000:=by
 have h5:=zai z0r 36600 l fun g hg=>zlb (h g hg) (hs g hg)
 have h7:l.length*36600≤20*36600:=Nat.mul_le_mul_right _ hl
 omega
def tnW (k:Int) (l:List GnT):List Int:=if l.length=0 then [] else z04 (2,k,true) (l.flatMap z0r)
def z2H (w:WhT):List Int:=if 0<w.2.length then z04 (2,1,true) (w.2.flatMap atW) else z04 (2,0,true) (w.1.flatMap z0r)
def z1g:Option WhT→List Int
 | none=> []
 | some w=>z04 (2,0,true) (z2H w)
def z1E (k:Int) (l:List Int):List Int:=if l.length=0 then [] else z04 (2,k,false) (flC l)
def z0p (k:Int) (x:Bool):List Int:=if x=true then z04 (2,k,false) [255] else []
def NoT (D:List Int) (t:z0g):Prop:=D= []∨∃(u:z0g) (b C:List Int),D=z04 u b++C∧z0q u=true∧b.length≤16777216∧u≠t
theorem zlc (l:List Int) (t:z0g):isH l l.length t=false:=by
 unfold isH
 by_cases h:(z0a l l.length).2.2=0
 ·have h1:=z84 l l.length h
  have h2:=(z17 l l.length (Nat.le_refl _)).2
  omega
 ·rw[decide_eq_false h,Bool.false_and]
theorem zld {A D:List Int} {t:z0g} (h:NoT D t):isH (A++D) A.length t=false:=by
 rcases h with rfl |⟨u,b,C,rfl,h1,h2,h3⟩
 ·rw[List.append_nil]; exact zlc A t
 ·rw[z7J A b C u t h1 h2,decide_eq_false h3]
theorem zjF {α:Type} {z:α} {l:List Int} {p:Nat} {t:z0g} {rd:List Int→α×Nat×Int} (h:isH l p t=false):z0l z l p t rd=(z,p,0):=by
 unfold z0l
 rw[if_neg (by rw[h]; exact Bool.false_ne_true)]
theorem z8b {α:Type} {z v:α} (A b D:List Int) {t:z0g} {rd:List Int→α×Nat×Int} (ht:z0q t=true) (hb:b.length≤16777216) (hr:rd b=(v,b.length,0)):z0l z (A++(z04 t b++D)) A.length t rd=(v,A.length+(z04 t b).length,0):=by
 unfold z0l
 rw[z7J A b D t t ht hb,decide_eq_true rfl,if_pos rfl,z4Z A b D t ht hb]
 dsimp only
 rw[if_pos rfl,hr]
 dsimp only
 rw[if_pos rfl,if_neg (Nat.lt_irrefl _)]
theorem z8c {α:Type} {z v:α} (A W D:List Int) {t:z0g} {rd:List Int→α×Nat×Int} (h:(W= []∧v=z∧NoT D t)∨∃ b,W=z04 t b∧z0q t=true∧b.length≤16777216∧rd b=(v,b.length,0)):
  z0l z (A++(W++D)) A.length t rd=(v,A.length+W.length,0):=by
 rcases h with ⟨rfl,rfl,h⟩ |⟨b,rfl,h1,h2,h3⟩
 ·rw[List.nil_append,zjF (zld h)]; rfl
 ·exact z8b A b D h1 h2 h3
theorem z5i (t:z0g) (b:List Int):b.length≤(z04 t b).length:=by
 unfold z04
 rw[List.length_append]
 omega
theorem zjG {r:List AtT} (h:z0D r=true) (hb:∀ a ∈ r,AtH a):z3K (r.flatMap atW)=(r,(r.flatMap atW).length,0):=by
 have h1:=zcw [] [] h hb
 rw[List.append_nil,List.nil_append,List.length_nil] at h1
 unfold z3K
 rw[show z04 (ofT 17) (r.flatMap atW)=z0i r from rfl,h1]
theorem zdn {k:Int} {b:Bool} (h:0≤k∧k≤30):z0q (2,k,b)=true:=by
 unfold z0q
 dsimp only
 rw[decide_eq_true_iff]
 omega
structure WhH (w:WhT):Prop where
 g:∀ g ∈ w.1,GnH g
 l:(w.1.flatMap z0r).length≤16000000
 a:∀ a ∈ w.2,AtH a
theorem zbH {r:List AtT} (h:z0D r=true) (hb:∀ a ∈ r,AtH a):(r.flatMap atW).length≤16008320:=by
 obtain⟨h1,h2,h3,h4⟩:=z3X h
 have hfl:(r.flatMap atW).length≤r.length*1000520:=zcv fun a ha=>by
  have:=z47 (h3 a ha)
  have:=(hb a ha).2
  omega
 have:r.length*1000520≤16*1000520:=Nat.mul_le_mul_right _ h2
 omega
theorem zjH {w:WhT} (h:z2Q w=true) (hb:WhH w):(z2H w).length≤16777000:=by
 obtain⟨g,s⟩:=w
 unfold z2Q at h
 unfold z2H
 dsimp only at*
 by_cases h0:0<s.length
 ·rw[if_pos h0,Bool.and_eq_true] at h
  have:=zbH h.2 hb.a
  have:=z0t (2,1,true) (s.flatMap atW)
  rw[if_pos h0]
  omega
 ·have:=hb.l
  dsimp only at this
  have:=z0t (2,0,true) (g.flatMap z0r)
  rw[if_neg h0]
  omega
theorem zjI {w:WhT} (h:z2Q w=true) (hb:WhH w):z3L (z2H w)=(some w,(z2H w).length,0):=by
 obtain⟨g,s⟩:=w
 unfold z2Q at h
 unfold z2H
 dsimp only at*
 by_cases h0:0<s.length
 ·rw[if_pos h0,Bool.and_eq_true,decide_eq_true_iff] at h
  obtain rfl:=List.eq_nil_of_length_eq_zero h.1
  rw[if_pos h0]
  have hl:=zbH h.2 hb.a
  have hs:=zjG h.2 hb.a
  generalize s.flatMap atW=c at*
  have hr:=z4m [] c [] (2,1,true) (by decide) (by omega)
  have hp:=z8b (z:= []) [] c [] (t:=(2,1,true)) (by decide) (by omega) hs
  have i0:=z7J [] c [] (2,1,true) (2,0,true) (by decide) (by omega)
  have i1:=z7J [] c [] (2,1,true) (2,1,true) (by decide) (by omega)
  rw[List.append_nil,List.nil_append,List.length_nil] at hr hp i0 i1
  unfold z3L
  rw[hr,i0,i1,hp]
  dsimp only
  rw[if_pos rfl,if_neg (by decide),if_pos (by decide),if_pos rfl,Nat.zero_add]
 ·rw[if_neg h0] at h ⊢
  obtain rfl:s= []:=List.eq_nil_of_length_eq_zero (by omega)
  have hl:=hb.l
  have hs:=zgo h hb.g
  dsimp only at hl
  generalize g.flatMap z0r=c at*
  have hr:=z4m [] c [] (2,0,true) (by decide) (by omega)
  have hp:=z8b (z:= []) [] c [] (t:=(2,0,true)) (by decide) (by omega) hs
  have i0:=z7J [] c [] (2,0,true) (2,0,true) (by decide) (by omega)
  rw[List.append_nil,List.nil_append,List.length_nil] at hr hp i0
  unfold z3L
  rw[hr,i0,hp]
  dsimp only
  rw[if_pos rfl,if_pos (by decide),if_pos rfl,Nat.zero_add]
theorem zjJ {u t:z0g} {b C:List Int} (hu:z0q u=true) (hb:b.length≤16777216) (h:u≠t):NoT (z04 u b++C) t:= .inr ⟨u,b,C,rfl,hu,hb,h⟩
theorem zjK {W D:List Int} {t:z0g} (h1:W= []∨∃ u b,W=z04 u b∧z0q u=true∧b.length≤16777216∧u≠t) (h2:NoT D t):NoT (W++D) t:=by
 rcases h1 with rfl |⟨u,b,rfl,q1,q2,q3⟩
 ·exact h2
 ·exact zjJ q1 q2 q3
theorem zaN {t:z0g}:NoT [] t:= .inl rfl
theorem zdo {l:List Int}:(flC l).length≤3:=by
 unfold flC
 dsimp only
 split<;>exact Nat.le_of_ble_eq_true rfl
theorem zle (k:Int) (l:List Int):z1E k l= []∨∃ b,z1E k l=z04 (2,k,false) b∧b.length≤16777216:=by
 unfold z1E
 split
 ·exact .inl rfl
 ·exact .inr ⟨_,rfl,by have:=zdo (l:=l); omega⟩
theorem z6F (k:Int) (x:Bool):z0p k x= []∨∃ b,z0p k x=z04 (2,k,false) b∧b.length≤16777216:=by
 unfold z0p
 split
 ·exact .inr ⟨_,rfl,by decide⟩
 ·exact .inl rfl
theorem z6G {W D:List Int} {k j:Int} {m m':Bool} (hk:0≤k∧k≤30) (hkj:k≠j) (h1:W= []∨∃ b,W=z04 (2,k,m) b∧b.length≤16777216) (h2:NoT D (2,j,m')):NoT (W++D) (2,j,m'):=
 zjK (h1.imp id fun⟨b,q1,q2⟩=>⟨_,b,q1,zdn hk,q2,fun e=>hkj (Prod.mk.inj (Prod.mk.inj e).2).1⟩) h2
theorem zjL (A:List Int) {o:Option WhT} {D:List Int} (h:z5q o=true) (hb:∀ w,o=some w→WhH w) (hD:NoT D (2,0,true)):z0l none (A++(z1g o++D)) A.length (2,0,true) z3L=(o,A.length+(z1g o).length,0):=by
 refine z8c A (z1g o) D ?_
 cases o with
 | none=>exact .inl ⟨rfl,rfl,hD⟩
 | some w=>
   have hl:=zjH (w:=w) h (hb w rfl)
   exact .inr ⟨_,rfl,by decide,by omega,zjI (w:=w) h (hb w rfl)⟩
theorem zjM (A:List Int) (k:Int) (hk:0≤k∧k≤30) {l D:List Int} (h:z0Z l=true) (hD:NoT D (2,k,false)):z0l [] (A++(z1E k l++D)) A.length (2,k,false) z2b=(l,A.length+(z1E k l).length,0):=by
 refine z8c A _ D ?_
 unfold z1E
 by_cases h0:l.length=0
 ·rw[if_pos h0]
  exact .inl ⟨rfl,List.eq_nil_of_length_eq_zero h0,hD⟩
 ·rw[if_neg h0]
  exact .inr ⟨_,rfl,zdn hk,by have:=zdo (l:=l); omega,zgC h (by rintro rfl; exact h0 rfl)⟩
theorem z7v (A:List Int) (k:Int) (hk:0≤k∧k≤30) {x:Bool} {D:List Int} (hD:NoT D (2,k,false)):z0l false (A++(z0p k x++D)) A.length (2,k,false) z1f=(x,A.length+(z0p k x).length,0):=by
 refine z8c A _ D ?_
 unfold z0p
 cases x with
 | false=>exact .inl ⟨rfl,rfl,hD⟩
 | true=>exact .inr ⟨[255],rfl,zdn hk,by decide,rfl⟩
set_option maxHeartbeats 4000000 in
theorem zhz (k:Int) (g:List GnT) (t:z0g) (l:List Int) (n:Nat) (us:List Value) (hk:0≤k∧k≤30) (hg:g.length=0∨z1Z g=true) (hb1:∀ x ∈ g,GnB x) (hgl:(g.flatMap z0r).length≤12800000) (hl:l.length+(g.flatMap z0r).length≤14000000) (hu:us.length=5*n) (hn0:0<n) (hnl:n≤800):
  CtM Tryz.prog 97 [.agg [.ptr 0 0],lv (.int .i64 k),gnV g] [shG t false (.own 1 1 0 l.length) (.own 2 5 0 n) 0,rB l,.fr us []] (.tup []) [shG t false (.own 3 1 0 (l++tnW k g).length) (.own 4 5 0 n) 0,.gone,.gone] [rB (l++tnW k g),.fr us []]:=by
 unfold tnW
 by_cases h0:g.length=0
 ·rw[if_pos h0,List.append_nil]
  obtain rfl:=List.eq_nil_of_length_eq_zero h0
  refine z18 Tryz.func97 rfl rfl rfl rfl rfl (fun E hn hb=>?_)
  repeat refine nx ?_
  exact rtM [1,2]
 ·rw[if_neg h0]
  have hok:=hg.resolve_left h0
  have hw:=zd6 g hb1 hok hgl
  have hat:=z1j k true
  have hrt:z0q (2,k,true)=true:=by unfold z0q; dsimp only; rw[decide_eq_true_iff]; omega
  have hwl:=z0t (2,k,true) (g.flatMap z0r)
  have hml:(gnR g).length=g.length:=List.length_map ..
  have ho:=z7x t (2,k,true) false l n us hu hn0 (by omega)
  generalize g.flatMap z0r=W at*
  have hf:=fun(a:Option Addr) (c:Nat)=>(z7w t false l 0 0 a n c).m
  have hpu:=fun(a:Option Addr) (c:Nat)=>z6H (2,k,true) false [] [W] a (n+1) c (Nat.le_of_ble_eq_true rfl) (by rw[show [W].flatten=W by simp,List.length_nil]; omega)
  rw[show [W].flatten=W by simp,List.nil_append] at hpu
  have hsh:=z4p (2,k,true) t false W l n us hu hrt (by omega) (by omega)
  have hne:¬ g= []:=fun e=>h0 (by rw[e]; rfl)
  refine z18 Tryz.func97 rfl rfl rfl rfl rfl (fun E hn hb=>?_)
  repeat refine nx ?_
  refine z1O (l:= [(1,lv (.int .i64 k)),(3,.c (.ptr 67 0)),(6,B8 W)]) (hs:= [(0,shG t false (.own 1 1 0 l.length) (.own 2 5 0 n) 0),(1,rB l),(2,.fr us []),(67,.cells [.ptr 0 0])]) [0,1] 0 5 hf rfl rfl (by rw[hn]; rfl) rfl (fun _ _=>rfl) rfl rfl (fun _ _=>rfl) (fun _ _=>trivial) (fun _ _=>⟨rfl,⟨rfl,rfl⟩,(by simp[z0e]),rfl⟩) (fun _ _=>rfl) (fun _ _=>rfl) (fun _ _=>by repeat' (first | exact trivial | exact rfl | exact congrArg (fun x=>lv (.int .i64 x)) (by omega) | refine⟨?_,?_⟩)) ?_
  repeat refine nxw ?_
  refine duF [88] [(4,0),(4,1),(4,2),(4,88)] ?_
  repeat (first | refine nx ?_ | refine zaI [0,1,2] hn ho ?_)
  refine z66 (fun a w h=>SR.cell_nil 0 4 900 rfl rfl rfl rfl rfl h) ?_
  repeat refine nx ?_
  refine z1O (l:= [(3,.c (.ptr 67 0))]) (hs:= [(0,shG (2,k,true) false (.own 93 1 0 W.length) (.own 88 5 0 (n+1)) 0),(1,rB l),(93,rB W),(67,.cells [.ptr 0 0]),(88,.fr us (frC t false (.own 1 1 0 l.length)))]) [0,900] 0 5 hpu rfl rfl (by rw[hn]; rfl) rfl (fun _ _=>rfl) rfl rfl (fun _ _=>rfl) (fun _ _=>trivial) (fun _ _=>⟨rfl,⟨rfl,rfl⟩,(by simp[z0e]),rfl⟩) (fun _ _=>rfl) (fun _ _=>rfl) (fun _ _=>by repeat' (first | exact trivial | exact rfl | exact congrArg (fun x=>lv (.int .i64 x)) (by omega) | refine⟨?_,?_⟩)) ?_
  repeat refine nx ?_
  refine z74 93 0 ?_
  refine z3d [0,88,1] hsh rfl rfl (by rw[hn]; rfl) rfl rfl (by trivial) ⟨rfl,⟨rfl,rfl,rfl⟩,(by simp[z0e]),rfl⟩ ?_
  repeat refine nx ?_
  exact rtN [96,88]
end Go.Proofs.YtaagjnlkinojcaaGreat

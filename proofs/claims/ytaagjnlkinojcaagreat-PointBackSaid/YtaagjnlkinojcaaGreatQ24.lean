/-
  Chapter 16: the next point at a cursor. The conditions: rows of at most a hundred thousand bytes.
-/
import Derived.Test.YtaagjnlkinojcaaGreatN1
import Derived.Test.YtaagjnlkinojcaaGreatM3
import Derived.Test.YtaagjnlkinojcaaGreatQ34
import Derived.Test.YtaagjnlkinojcaaGreatN8
namespace Go.Proofs.YtaagjnlkinojcaaGreat
set_option linter.unusedSimpArgs false
set_option linter.unusedVariables false
open Go Go.Sx
set_option maxRecDepth 10000
theorem z6p (l:List Int) (us:List Value) (hl:l.length≤16000000):Ct Tryz.prog 84 [.c (.ptr 0 0)] [shG z2n false (.lf (.ints .u8 l)) (.own 1 5 0 0) 0,.fr us []] (.tup [B8 l,lv (.int .i64 0)]) [shG z2n false (.lf (.ints .u8 l)) (.own 1 5 0 0) 0,.fr us []] []:=by
 have h:=zbS l hl
 refine z00 Tryz.func84 rfl rfl rfl rfl rfl (fun E hn hb=>?_)
 repeat refine nx ?_
 exact rt1 []
theorem zhG (out:List (List Int)) (x:List Int) (h:out= []∨¬ 0<z0z (out.getD (out.length -1) []) x):z7g out x=out++ [x]:=by
 rcases h with rfl | h
 ·rfl
 ·have e:atO out x out.length=out.length:=by
   cases hl:out.length with
   | zero=>rfl
   | succ n=>rw[atO]; rw[hl] at h; exact if_neg h
  unfold z7g
  rw[e,List.take_length,List.drop_length]
theorem zaa:∀(r p:List AtT),(p= []∨z25 (p.getD (p.length -1) atD::r)=true)→z25 r=true→z5p (r.map atW) (p.map atW)=(p++r).map atW
 | [],p,_,_=>by rw[List.map_nil,z5p,List.append_nil]
 | a::l,p,h1,h2=>by
   have e:z7g (p.map atW) (atW a)=(p++ [a]).map atW:=by
    rw[zhG,List.map_append]; rfl
    rcases h1 with rfl | h1
    ·exact .inl rfl
    ·by_cases hp:p= []
     ·subst hp; exact .inl rfl
     ·right
      have hpos:0<p.length:=List.length_pos_iff.2 hp
      have h3:z0z (atW (p.getD (p.length -1) atD)) (atW a)<0:=by
       rw[z25,Bool.and_eq_true,decide_eq_true_iff] at h1
       exact h1.1
      have e2:(p.map atW).getD ((p.map atW).length -1) []=atW (p.getD (p.length -1) atD):=by
       rw[List.length_map,List.getD_eq_getElem?_getD,List.getD_eq_getElem?_getD,List.getElem?_map,List.getElem?_eq_getElem (by omega)]
       rfl
      rw[e2]
      omega
   rw[List.map_cons,z5p,e,zaa l (p++ [a]) (.inr ?_) ?_]
   ·simp
   ·rw[List.length_append,List.length_singleton,Nat.add_sub_cancel,List.getD_eq_getElem?_getD,List.getElem?_append_right (Nat.le_refl _),Nat.sub_self]
    exact h2
   ·cases l with
    | nil=>rfl
    | cons b l=>
      rw[z25,Bool.and_eq_true] at h2
      exact h2.2
theorem zab (r:List AtT) (h:z25 r=true):z4H (r.map atW)=r.map atW:=by
 rw[zcQ]
 exact zaa r [] (.inl rfl) h
theorem zdi {r:List AtT} (h:z0C r=true):1≤r.length∧r.length≤16∧r.all z1F=true∧z25 r=true:=by
 unfold z0C at h
 simp only[Bool.and_eq_true,decide_eq_true_iff] at h
 exact⟨h.1.1.1,h.1.1.2,h.1.2,h.2⟩
theorem zdj (r:List AtT):(r.map atW).flatten=r.flatMap atW:=rfl
theorem zlh {r:List AtT} {a:AtT} (h:a ∈ r):(atW a).length≤(r.flatMap atW).length:=by
 obtain⟨s,t,rfl⟩:=List.append_of_mem h
 rw[List.flatMap_append,List.flatMap_cons,List.length_append,List.length_append]
 omega
theorem z90 (r:List AtT) (hb1:∀ a ∈ r,AtB a) (h:z0C r=true) (hl:(r.flatMap atW).length≤14400000):Ct Tryz.prog 142 [z3m r] [] (.tup [B8 (z0g r),lv (.int .i64 0)]) [] []:=by
 obtain⟨h1,h2,h3,h4⟩:=zdi h
 have hw:=z8S r hb1 (by omega)
 rw[h,if_pos rfl] at hw
 have hs:=zj5 (r.map atW) (by rw[List.length_map]; omega) (fun x hx=>by
  obtain⟨a,ha,rfl⟩:=List.mem_map.1 hx
  have:=zlh ha
  show(atW a).length≤16000000
  omega) (by rw[zab r h4,zdj]; omega)
 rw[zab r h4,zdj] at hs
 unfold z0g
 refine z00 Tryz.func142 rfl rfl rfl rfl rfl (fun E hn hb=>?_)
 repeat refine nx ?_
 exact rt1 []
theorem zbC (r:List AtT):(r.flatMap atW).length≤(z0g r).length:=by
 unfold z0g z05
 rw[List.length_append]
 omega
theorem zaE {α:Type} (f:α→List Int) (l:List α) (i:Nat) (d:α) (h:i<l.length):(l.take (i+1)).flatMap f=(l.take i).flatMap f++f (l.getD i d):=by
 rw[z1Y (d:=d) h,List.flatMap_append]
 simp
theorem z7r {α:Type} (f:α→List Int) (l:List α) (i:Nat):((l.take i).flatMap f).length≤(l.flatMap f).length:=by
 have:=(congrArg (fun x=>(List.flatMap f x).length) (List.take_append_drop i l):(List.flatMap f (l.take i++l.drop i)).length=(List.flatMap f l).length)
 rw[List.flatMap_append,List.length_append] at this
 omega
theorem zdk (n:List (List AtT)) (hb1:NmB n) (h:z15 n=true) (hl:(n.flatMap z0g).length≤12800000):Ct Tryz.prog 181 [nmV n] [] (.tup [B8 (z1S n),lv (.int .i64 0)]) [] []:=by
 have hr:=z70 n hb1
 rw[h] at hr
 have hnw:=z8L
 have hof:=z1d 16
 have ho:=z6r z2n (ofT 16) false []
 have hml:(n.map fun r=> [z1s r]).length=n.length:=List.length_map ..
 have hnl:=hb1.1
 unfold z15 at h
 rw[Bool.and_eq_true,List.all_eq_true] at h
 unfold z1S
 refine z00 Tryz.func181 rfl rfl rfl rfl rfl (fun E hn hb=>?_)
 repeat (first | refine nx ?_ | refine cm1 ?_)
 refine z7H (fun a w h=>SR.cell_nil 76 4 900 rfl rfl rfl rfl rfl h) ?_
 rw[show((List.length (n.map fun r=> [z1s r]):Nat):Int)=(n.length:Int) from congrArg _ hml]
 refine z09 (St.le_of (l:= [(0,nmV n),(4,.c (.ptr 76 0)),(16,nmV n),(17,lv (.int .i64 (n.length:Int))),(18,lv (.int .i64 ((0:Nat):Int)))]) (h:= [(76,shG (ofT 16) false (.own 900 1 0 ((n.take 0).flatMap z0g).length) (.own 79 5 0 1) 0),(79,.fr [] (frC z2n false (.own 1076 1 0 ([]:List Int).length))),(900,rB ((n.take 0).flatMap z0g)),(1076,rB [])]) (by refine⟨?_,?_⟩<;>(repeat' (first | exact trivial | exact rfl | refine⟨?_,?_⟩))<;>first | exact rfl |(simp; done) | skip)) ?_
 refine z0k (ι:= {i:Nat//i≤n.length}) (fun i=>St.of [(0,nmV n),(4,.c (.ptr 76 0)),(16,nmV n),(17,lv (.int .i64 (n.length:Int))),(18,lv (.int .i64 (i.1:Int)))] [(76,shG (ofT 16) false (.own 900 1 0 ((n.take i.1).flatMap z0g).length) (.own 79 5 0 1) 0),(79,.fr [] (frC z2n false (.own 1076 1 0 ([]:List Int).length))),(900,rB ((n.take i.1).flatMap z0g)),(1076,rB [])]) (fun i=>n.length -i.1) (fun i=>?_) ⟨0,Nat.zero_le _⟩
 obtain⟨i,hi⟩:=i
 dsimp only
 by_cases hi2:i<n.length
 ·have hq:n.getD (i:Int).toNat []=n.getD i []:=rfl
  have hmem:=z1m (d:= []) hi2
  have hok:=h.2 _ hmem
  have hbr:=hb1.2 _ hmem
  have hft:=zaE z0g n i [] hi2
  have hle:=z7r z0g n (i+1)
  have hsl:=zbC (n.getD i [])
  rw[hft,List.length_append] at hle
  have hwr:=z90 _ hbr.2 hok (by omega)
  generalize n.getD i []=r at*
  have hfa:=fun(a:Option Addr) (c:Nat)=>(z64 (ofT 16) false ((n.take i).flatMap z0g) 0 0 a 1 c).m
  have hpu:=fun(a:Option Addr) (c:Nat)=>z5G (ofT 16) false ((n.take i).flatMap z0g) [z0g r] a 1 c (Nat.le_of_ble_eq_true rfl) (by rw[show [z0g r].flatten=z0g r by simp]; omega)
  rw[show [z0g r].flatten=z0g r by simp,←hft] at hpu
  generalize z0g r=W at*
  repeat (first | refine nx ?_ | rw[hq])
  refine z1w (l:= [(0,nmV n),(4,.c (.ptr 76 0)),(7,B8 W),(16,nmV n),(17,lv (.int .i64 (n.length:Int))),(18,lv (.int .i64 (i:Int)))]) (hs:= [(76,shG (ofT 16) false (.own 900 1 0 ((n.take i).flatMap z0g).length) (.own 79 5 0 1) 0),(900,rB ((n.take i).flatMap z0g)),(79,.fr [] (frC z2n false (.own 1076 1 0 ([]:List Int).length))),(1076,rB [])]) [76,900] 76 5 hfa rfl rfl (by rw[hn]; rfl) rfl (fun _ _=>rfl) rfl rfl (fun _ _=>rfl) (fun _ _=>trivial) (fun _ _=>⟨rfl,⟨rfl,rfl⟩,(by simp[z0b]),rfl⟩) (fun _ _=>rfl) (fun _ _=>rfl) (fun _ _=>by repeat' (first | exact trivial | exact rfl | exact congrArg (fun x=>lv (.int .i64 x)) (by omega) | refine⟨?_,?_⟩)) ?_
  repeat refine nx ?_
  refine z1w (l:= [(0,nmV n),(4,.c (.ptr 76 0)),(7,B8 W),(16,nmV n),(17,lv (.int .i64 (n.length:Int))),(18,lv (.int .i64 (i:Int)))]) (hs:= [(76,shG (ofT 16) false (.own 97 1 0 ((n.take (i+1)).flatMap z0g).length) (.own 79 5 0 1) 0),(97,rB ((n.take (i+1)).flatMap z0g)),(79,.fr [] (frC z2n false (.own 1076 1 0 ([]:List Int).length))),(1076,rB [])]) [76,900] 76 5 hpu rfl rfl (by rw[hn]; rfl) rfl (fun _ _=>rfl) rfl rfl (fun _ _=>rfl) (fun _ _=>trivial) (fun _ _=>⟨rfl,⟨rfl,rfl⟩,(by simp[z0b]),rfl⟩) (fun _ _=>rfl) (fun _ _=>rfl) (fun _ _=>by repeat' (first | exact trivial | exact rfl | exact congrArg (fun x=>lv (.int .i64 x)) (by omega) | refine⟨?_,?_⟩)) ?_
  repeat refine nx ?_
  refine z41 (fun a w h=>SR.mv 97 900 rfl rfl rfl rfl rfl h) ?_
  refine z08 ⟨i+1,by omega⟩ (by dsimp only; omega) (St.le_of ⟨⟨rfl,rfl,rfl,rfl,rfl⟩,⟨rfl,rfl,rfl,rfl⟩⟩)
 ·obtain rfl:i=n.length:=by omega
  rw[List.take_length]
  have hsh:=z3z (ofT 16) z2n false (n.flatMap z0g) [] 0 [] rfl (by decide) (by rw[List.length_nil]; omega) (by decide)
  rw[List.nil_append] at hsh
  have hwl:=z0s (ofT 16) (n.flatMap z0g)
  have hby:=z6p (z05 (ofT 16) (n.flatMap z0g)) [] (by omega)
  generalize z05 (ofT 16) (n.flatMap z0g)=W at*
  repeat refine nx ?_
  refine z4U 900 76 ?_
  refine z2D [76,79,1076] hsh rfl rfl (by rw[hn]; rfl) rfl rfl (by trivial) ⟨rfl,⟨rfl,rfl,rfl⟩,(by simp[z0b]),rfl⟩ ?_
  repeat refine nx ?_
  refine z4U 100 76 ?_
  repeat refine nx ?_
  exact rt1 []
theorem zli (k:Int):Ct Tryz.prog 182 [lv (.int .i64 k)] [] (z2c (2,k,z1K k)) [] []:=by
 have h1:=zct k
 have h2:=z1j k (z1K k)
 refine z00 Tryz.func182 rfl rfl rfl rfl rfl (fun E hn hb=>?_)
 repeat refine nx ?_
 exact rt1 []
theorem zbD {g:GnT} (h:z0G g=true):z0q (2,g.1,z1K g.1)=true:=by
 obtain⟨h1,h2,_,_⟩:=z51 h
 unfold z0q
 dsimp only
 rw[decide_eq_true_iff]
 omega
theorem zhH (g:GnT) (hb1:GnB g) (h:z0G g=true) (hl:(g.2.2.flatMap z0g).length≤12800000):Ct Tryz.prog 138 [gnA g] [] (.tup [B8 (z0l g),lv (.int .i64 0)]) [] []:=by
 have hr:=z5k g hb1
 have ht:=zbD h
 rw[h] at hr
 obtain⟨k,b,n⟩:=g
 have htg:=zli k
 unfold z0l
 dsimp only at*
 by_cases hk:k=4
 ·subst hk
  rw[if_pos rfl]
  have hno:z15 n=true:=by
   unfold z0G at h
   rw[if_pos rfl,Bool.and_eq_true] at h
   exact h.2
  have hn14:=zdk n hb1.n hno hl
  have hnl:(z1S n).length≤14400000:=by
   have:=z0s (ofT 16) (n.flatMap z0g)
   unfold z1S
   omega
  generalize z1S n=W at*
  have hwr:=z7i (2,4,z1K 4) [W] (Nat.le_of_ble_eq_true rfl) (by rw[show [W].flatten=W by simp]; omega)
  rw[show [W].flatten=W by simp] at hwr
  unfold z4c at hwr
  rw[if_pos ht] at hwr
  dsimp only at hwr
  generalize z05 (2,4,z1K 4) W=V at*
  refine z00 Tryz.func138 rfl rfl rfl rfl rfl (fun E hn hb=>?_)
  repeat refine nx ?_
  exact rt1 []
 ·rw[if_neg hk]
  have hwr:=z7i (2,k,z1K k) [b] (Nat.le_of_ble_eq_true rfl) (by have:=hb1.l; dsimp only at this; rw[show [b].flatten=b by simp]; omega)
  rw[show [b].flatten=b by simp] at hwr
  unfold z4c at hwr
  rw[if_pos ht] at hwr
  dsimp only at hwr
  generalize z05 (2,k,z1K k) b=V at*
  refine z00 Tryz.func138 rfl rfl rfl rfl rfl (fun E hn hb=>?_)
  repeat refine nx ?_
  exact rt1 []
theorem zdl {g:GnT} (h:z0G g=true):(g.2.2.flatMap z0g).length≤(z0l g).length:=by
 obtain⟨_,_,_,h4⟩:=z51 h
 unfold z0l z05
 rw[List.length_append]
 by_cases hk:g.1=4
 ·rw[if_pos hk]
  unfold z1S z05
  simp only[List.length_append]
  omega
 ·rw[h4 hk]
  exact Nat.zero_le _
theorem z1P {l:List GnT} (h:z1g l=true):0<l.length∧l.length≤10000∧∀ g ∈ l,z0G g=true:=by
 unfold z1g at h
 rw[Bool.and_eq_true,Bool.and_eq_true,decide_eq_true_iff,decide_eq_true_iff,List.all_eq_true] at h
 exact⟨h.1.1,h.1.2,h.2⟩
set_option maxHeartbeats 4000000 in
theorem zdm (l:List GnT) (hb1:∀ g ∈ l,GnB g) (h:z1g l=true) (hl:(l.flatMap z0l).length≤12800000):Ct Tryz.prog 73 [gnV l] [] (.tup [B8 (l.flatMap z0l),lv (.int .i64 0)]) [] []:=by
 obtain⟨h1,h2,h3⟩:=z1P h
 have hml:(gnR l).length=l.length:=List.length_map ..
 refine z00 Tryz.func73 rfl rfl rfl rfl rfl (fun E hn hb=>?_)
 repeat refine nx ?_
 refine z06 rfl (by simp) (fun hc=>?_) (fun hc=>?_)
 ·exfalso
  rw[hml,show((l.length:Int)==0)=false by rw[beq_eq_false_iff_ne]; omega,show decide ((10000:Int)<(l.length:Int))=false by rw[decide_eq_false_iff_not]; omega] at hc
  cases hc
 clear hc
 repeat refine nx ?_
 rw[hml]
 refine z09 (St.le_of (l:= [(0,gnV l),(19,gnV l),(20,lv (.int .i64 (l.length:Int))),(21,lv (.int .i64 ((0:Nat):Int)))]) (h:= []) (by refine⟨?_,?_⟩<;>(repeat' (first | exact trivial | exact rfl | refine⟨?_,?_⟩))<;>first | exact rfl |(simp; done) | skip)) ?_
 refine z0k (ι:= {i:Nat//i≤l.length}) (fun i=>St.of [(0,gnV l),(19,gnV l),(20,lv (.int .i64 (l.length:Int))),(21,lv (.int .i64 (i.1:Int)))] []) (fun i=>l.length -i.1) (fun i=>?_) ⟨0,Nat.zero_le _⟩
 obtain⟨i,hi⟩:=i
 dsimp only
 by_cases hi2:i<l.length
 ·have hq:l.getD (i:Int).toNat default=l.getD i gn0:=rfl
  have hm:=z1m (d:=gn0) hi2
  have hw:=z5k _ (hb1 _ hm)
  rw[h3 _ hm] at hw
  clear hm
  generalize hA:l.getD i gn0=g at*
  obtain⟨k,b,n⟩:=g
  repeat (first | refine nx ?_ | rw[hq])
  refine z08 ⟨i+1,by omega⟩ (by dsimp only; omega) (St.le_of ⟨⟨rfl,rfl,rfl,rfl⟩,trivial⟩)
 ·obtain rfl:i=l.length:=by omega
  repeat refine nx ?_
  refine z10 6 900 1 (.ints .u8 []) rfl rfl (.inr (.inl ⟨_,rfl⟩)) ?_
  rw[hml]
  refine z09 (St.le_of (l:= [(6,.c (.own 900 1 0 ((l.take 0).flatMap z0l).length)),(29,gnV l),(30,lv (.int .i64 (l.length:Int))),(31,lv (.int .i64 ((0:Nat):Int)))]) (h:= [(900,rB ((l.take 0).flatMap z0l))]) (by refine⟨?_,?_⟩<;>(repeat' (first | exact trivial | exact rfl | refine⟨?_,?_⟩))<;>first | exact rfl |(simp; done) | skip)) ?_
  refine z0k (ι:= {i:Nat//i≤l.length}) (fun i=>St.of [(6,.c (.own 900 1 0 ((l.take i.1).flatMap z0l).length)),(29,gnV l),(30,lv (.int .i64 (l.length:Int))),(31,lv (.int .i64 (i.1:Int)))] [(900,rB ((l.take i.1).flatMap z0l))]) (fun i=>l.length -i.1) (fun i=>?_) ⟨0,Nat.zero_le _⟩
  obtain⟨i,hi⟩:=i
  dsimp only
  by_cases hi2:i<l.length
  ·have hq:l.getD (i:Int).toNat default=l.getD i gn0:=rfl
   have hm:=z1m (d:=gn0) hi2
   have hft:=zaE z0l l i gn0 hi2
   have hle:=z7r z0l l (i+1)
   have hgl:=zdl (h3 _ hm)
   rw[hft,List.length_append] at hle
   have hw:=zhH _ (hb1 _ hm) (h3 _ hm) (by omega)
   clear hm
   generalize hA:l.getD i gn0=g at*
   obtain⟨k,b,n⟩:=g
   generalize z0l (k,b,n)=W at*
   generalize hL:(l.take i).flatMap z0l=L at*
   repeat (first | refine nx ?_ | rw[hq])
   refine z08 ⟨i+1,by omega⟩ (by dsimp only; omega) (St.le_of ⟨⟨?_,rfl,rfl,rfl⟩,?_⟩)
   ·dsimp only; rw[hft]; rfl
   ·dsimp only; rw[hft]; rfl
  ·obtain rfl:i=l.length:=by omega
   rw[List.take_length]
   repeat refine nx ?_
   refine z31 2 ?_
   exact rt1 []
end Go.Proofs.YtaagjnlkinojcaaGreat
namespace Go.Proofs.YtaagjnlkinojcaaGreat
set_option linter.unusedSimpArgs false
set_option linter.unusedVariables false
open Go.Sx
set_option maxRecDepth 10000
theorem z28 {α:Type} (z:α) (e:Int) (l:List Int) (p:Nat) (t:z0h) (rd:List Int→α×Nat×Int) (hp:p≤l.length):p≤(z0O z e l p t rd).2.1∧(z0O z e l p t rd).2.1≤l.length:=by
 unfold z0O
 split
 ·exact z98 _ _ _ _ _ hp
 ·exact⟨Nat.le_refl _,hp⟩
def z3S (x:List Int):PtT×Nat×Int:=
 let a:=z0O none 0 x 0 (2,0,true) z2t
 let b:=z0O [] a.2.2 x a.2.1 (2,1,false) z1p
 let c:=z0O [] b.2.2 x b.2.1 (2,2,true) z1D
 ((a.1,b.1,c.1),c.2.1,c.2.2)
theorem zeH (x:List Int):(z1p x).2.1≤x.length:=by
 unfold z1p
 dsimp only
 split
 ·split
  ·exact Nat.le_refl _
  ·exact Nat.le_refl _
 ·exact Nat.le_refl _
theorem zlj (x:List Int):(z3S x).2.1≤x.length:=by
 unfold z3S
 dsimp only
 exact(z28 _ _ _ _ _ _ (z28 _ _ _ _ _ _ (z28 _ _ _ _ _ _ (Nat.zero_le _)).2).2).2
set_option maxHeartbeats 4000000 in
theorem zhI (x:List Int) (hl:x.length≤11760000) (hw:WfB x):Ct Tryz.prog 50 [.c (.ptr 0 0)] [z2d 0,z04 x 0] (ptA (z3S x).1) [z2d (z3S x).2.2,z04 x (z3S x).2.1] []:=by
 have h1:=zcA x 0 0 true 52 0 z2t (Nat.zero_le _) hl hw ze6 (fun y hy hwy=>zcy y (by omega) hwy)
 unfold z3S
 dsimp only
 have l1:=z28 none 0 x 0 (2,0,true) z2t (Nat.zero_le _)
 generalize z0O none 0 x 0 (2,0,true) z2t=A at*
 obtain⟨a,pa,ea⟩:=A
 dsimp only at*
 have h2:=zcL x pa 1 false 54 ea z1p l1.2 (by omega) hw zeH (fun y hy hwy=>zaZ y (by omega) hwy)
 have l2:=z28 [] ea x pa (2,1,false) z1p l1.2
 generalize z0O [] ea x pa (2,1,false) z1p=B at*
 obtain⟨b,pb,eb⟩:=B
 dsimp only at*
 have h3:=zj2 x pb 2 true 56 eb z1D l2.2 (by omega) hw zcx (fun y hy hwy=>z8Z y (by omega) hwy)
 generalize z0O [] eb x pb (2,2,true) z1D=C at*
 obtain⟨c,pc,ec⟩:=C
 dsimp only at*
 rcases a with _ |⟨w1,w2⟩
 ·change Ct _ _ _ _ (.c (.lf (.v (.pointer none)))) _ _ at h1
  show Ct _ _ _ _ (.agg [.lf (.v (.pointer none)),.lf (.ints .i64 b),.lf (.recs 3 (gnR c))]) _ _
  refine z00 Tryz.func50 rfl rfl rfl rfl rfl (fun E hn hb=>?_)
  repeat refine nx ?_
  exact rt1 []
 ·change Ct _ _ _ _ (.c (.lf (.obj [.recs 3 (gnR w1),z1s w2]))) _ _ at h1
  show Ct _ _ _ _ (.agg [.lf (.obj [.recs 3 (gnR w1),z1s w2]),.lf (.ints .i64 b),.lf (.recs 3 (gnR c))]) _ _
  refine z00 Tryz.func50 rfl rfl rfl rfl rfl (fun E hn hb=>?_)
  repeat refine nx ?_
  exact rt1 []
theorem zeI {x:List Int} (hw:WfB x) (hl:x.length≤12000000):∀(f p:Nat) (acc r:List GnT) (s:Nat),p≤x.length→(∀ g ∈ acc,GnB g)→acc.length≤10000→z3b x f p acc=(r,s,0)→(∀ g ∈ r,GnB g)∧r.length≤10000
 | 0,p,acc,r,s,_,_,_,h=>by
   rw[z3b] at h
   simp only[Prod.mk.injEq] at h
   obtain⟨rfl,_⟩:=h
   simp
 | f+1,p,acc,r,s,hp,ha,hl2,h=>by
   rw[z3b] at h
   by_cases h1:p<x.length
   ·rw[if_pos h1] at h
    by_cases h2:acc.length=10000
    ·rw[if_pos h2] at h; simp at h
    ·rw[if_neg h2] at h
     have hle:=z6J x p hp
     have hB:(z2z x p).2.2=0→GnB (z2z x p).1:=fun h0=>by
      unfold z2z at h0 ⊢
      dsimp only at h0 ⊢
      split at h0
      ·rename_i e1
       rw[if_pos e1]
       split at h0
       ·simp at h0
       ·rename_i e2
        rw[if_neg e2]
        split at h0
        ·simp at h0
        ·rename_i e3
         rw[if_neg e3]
         dsimp only at h0 ⊢
         exact zp4 (ze4 hw _ _) (by simp; omega) (Prod.ext rfl h0)
      ·rename_i e1
       exact absurd h0 e1
     generalize z2z x p=A at*
     obtain⟨a,q,e⟩:=A
     dsimp only at*
     by_cases he:e=0
     ·subst he
      rw[if_pos rfl] at h
      exact zeI hw hl f q (acc++ [a]) r s hle.2 (fun g hg=>by
       rcases List.mem_append.1 hg with h3 | h3
       ·exact ha g h3
       ·rw[List.mem_singleton.1 h3]; exact hB rfl) (by simp; omega) h
     ·rw[if_neg he] at h
      simp only[Prod.mk.injEq] at h
      exact absurd h.2.2 he
   ·rw[if_neg h1] at h
    simp only[Prod.mk.injEq] at h
    obtain⟨rfl,_⟩:=h
    exact⟨ha,hl2⟩
theorem zeJ {x:List Int} (hw:WfB x) (hl:x.length≤12000000) (h:(z16 x).2.2=0):(∀ g ∈ (z16 x).1,GnB g)∧(z16 x).1.length≤10000:=by
 unfold z16 at h ⊢
 split at h
 ·simp at h
 ·rename_i h0
  rw[if_neg h0]
  exact zeI hw hl _ 0 [] _ (z3b x (x.length+1) 0 []).2.1 (Nat.zero_le _) (by simp) (by simp) (Prod.ext rfl (Prod.ext rfl h))
theorem z9n {x:List Int} (h:(z16 x).2.2=0):z1D x=z16 x:=by
 unfold z1D z0U
 rw[if_pos h]
theorem zdn {x:List Int} (h:¬ (z16 x).2.2=0):z1D x=([],0,(z16 x).2.2):=by
 unfold z1D z0U
 rw[if_neg h]
theorem zeK {x:List Int} (hw:WfB x) (hl:x.length≤12000000):(∀ g ∈ (z1D x).1,GnB g)∧(z1D x).1.length≤10000:=by
 by_cases h:(z16 x).2.2=0
 ·rw[z9n h]
  exact zeJ hw hl h
 ·rw[zdn h]
  simp
theorem zq2 {x:List Int} (hw:WfB x) (hl:x.length≤11880000) (h:(z3s x).2.2=0):(z3s x).1.length≤16000000∧∀ a ∈ (z3s x).1,AtB a:=by
 unfold z3s at h ⊢
 dsimp only at h ⊢
 have hww:=z1I (ofT 17) x (by decide) hw
 have hwl:=z0s (ofT 17) x
 generalize z05 (ofT 17) x=W at*
 obtain⟨h1,h2⟩:=z6m (l:=W) (p:=0) (q:=(z2e W 0).2.1) (r:=(z2e W 0).1) hww (Prod.ext rfl (Prod.ext rfl h))
 rw[List.drop_zero] at h2
 have hlen:=congrArg List.length h2
 rw[List.length_append] at hlen
 exact ze1 h1 (fun z hz=>hww z (by rw[h2]; exact List.mem_append_left _ hz)) (by omega)
theorem z3F {α:Type} (z:α) (l:List Int) (p:Nat) (t:z0h) (rd:List Int→α×Nat×Int):(z0i z l p t rd).1=z∨∃ x:List Int,x.length≤l.length∧(∀ y ∈ x,y ∈ l)∧(rd x).2.2=0∧(z0i z l p t rd).1=(rd x).1:=by
 have hm:=z0H l p t
 unfold z0i
 dsimp only
 split
 ·split
  ·split
   ·rename_i h
    split
    ·exact .inl rfl
    ·exact .inr ⟨_,hm.1,hm.2,h,rfl⟩
   ·exact .inl rfl
  ·exact .inl rfl
 ·exact .inl rfl
theorem z4O {α:Type} (z:α) (e:Int) (l:List Int) (p:Nat) (t:z0h) (rd:List Int→α×Nat×Int):(z0O z e l p t rd).1=z∨∃ x:List Int,x.length≤l.length∧(∀ y ∈ x,y ∈ l)∧(rd x).2.2=0∧(z0O z e l p t rd).1=(rd x).1:=by
 unfold z0O
 split
 ·exact z3F _ _ _ _ _
 ·exact .inl rfl
theorem zdo {x:List Int} (hw:WfB x) (hl:x.length≤11760000):z4I (z2t x).1:=by
 unfold z2t
 dsimp only
 split
 ·split
  ·rcases z3F [] x 0 (2,0,true) z1D with h |⟨y,h1,h2,h3,h⟩
   ·rw[h]
    exact⟨by simp,by simp,by simp,by simp⟩
   ·rw[h]
    have:=zeK (x:=y) (fun z hz=>hw z (h2 z hz)) (by omega)
    exact⟨by dsimp only; omega,this.1,by simp,by simp⟩
  ·split
   ·rcases z3F [] x 0 (2,1,true) z3s with h |⟨y,h1,h2,h3,h⟩
    ·rw[h]
     exact⟨by simp,by simp,by simp,by simp⟩
    ·rw[h]
     have:=zq2 (x:=y) (fun z hz=>hw z (h2 z hz)) (by omega) h3
     exact⟨by simp,by simp,this.1,this.2⟩
   ·exact⟨by simp,by simp,by simp,by simp⟩
 ·trivial
theorem z9o (x:List Int):(z1p x).1.length≤32:=by
 unfold z1p
 dsimp only
 split
 ·split
  ·exact zcw _ _
  ·simp
 ·simp
theorem zq3 {x:List Int} (hw:WfB x) (hl:x.length≤11760000):PtB (z3S x).1:=by
 have e1:z4I (z0O none 0 x 0 (2,0,true) z2t).1:=by
  rcases z4O none 0 x 0 (2,0,true) z2t with h |⟨y,h1,h2,h3,h⟩
  ·rw[h]; trivial
  ·rw[h]; exact zdo (fun z hz=>hw z (h2 z hz)) (by omega)
 have e2:∀(e:Int) (p:Nat),(z0O [] e x p (2,1,false) z1p).1.length≤32:=fun e p=>by
  rcases z4O [] e x p (2,1,false) z1p with h |⟨y,h1,h2,h3,h⟩
  ·rw[h]; simp
  ·rw[h]; exact z9o y
 have e3:∀(e:Int) (p:Nat),(∀ g ∈ (z0O [] e x p (2,2,true) z1D).1,GnB g)∧(z0O [] e x p (2,2,true) z1D).1.length≤10000:=fun e p=>by
  rcases z4O [] e x p (2,2,true) z1D with h |⟨y,h1,h2,h3,h⟩
  ·rw[h]; simp
  ·rw[h]; exact zeK (fun z hz=>hw z (h2 z hz)) (by omega)
 unfold z3S
 dsimp only
 generalize z0O none 0 x 0 (2,0,true) z2t=A0 at*
 have e2:=e2 A0.2.2 A0.2.1
 generalize z0O [] A0.2.2 x A0.2.1 (2,1,false) z1p=B0 at*
 have e3:=e3 B0.2.2 B0.2.1
 generalize z0O [] B0.2.2 x B0.2.1 (2,2,true) z1D=C0 at*
 refine⟨e1,?_,?_,?_⟩
 all_goals first | exact e3.1 |(dsimp only; omega) | trace_state
end Go.Proofs.YtaagjnlkinojcaaGreat

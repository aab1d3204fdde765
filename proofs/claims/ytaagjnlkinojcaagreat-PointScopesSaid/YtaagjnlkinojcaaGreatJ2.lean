/-
  Chapters 14 and 15: steps, names, general names written by the program. The conditions: right ones, rows that a machine can hold.
-/
import Derived.Test.YtaagjnlkinojcaaGreatQ23
import Derived.Test.YtaagjnlkinojcaaGreatSxE
import Derived.Test.YtaagjnlkinojcaaGreatN1
import Derived.Test.YtaagjnlkinojcaaGreatB16
import Derived.Test.YtaagjnlkinojcaaGreatQ3
namespace Go.Proofs.YtaagjnlkinojcaaGreat
set_option linter.unusedSimpArgs false
set_option linter.unusedVariables false
open Go.Sx
set_option maxRecDepth 10000
theorem z2j {α:Type} {l:List α} {i:Nat} {d:α} (h:i<l.length):l.take (i+1)=l.take i++ [l.getD i d]:=by
 rw[List.take_add_one,List.getD_eq_getElem?_getD,List.getElem?_eq_getElem h]
 rfl
theorem z4U (l:List AtT) (a:AtT):(l++ [a]).map atL=l.map atL++ [atL a]:=List.map_append
theorem z6f (l:List (List AtT)) (r:List AtT):nmR (l++ [r])=nmR l++ [[z2g r]]:=List.map_append
set_option maxHeartbeats 8000000 in
theorem zkT (n:List (List AtT)) (hb1:NmB n):Ct Tryz.prog 26 [nmV n] [] (nmV n) [] []:=by
 have hml:(n.map fun r=> [z2g r]).length=n.length:=List.length_map ..
 refine z00 Tryz.func26 rfl rfl rfl rfl rfl (fun E hn hb=>?_)
 repeat refine nx ?_
 refine z0N 3 900 1 (.recs 1 []) rfl rfl (.inr (.inr ⟨_,rfl⟩)) ?_
 refine z09 (St.le_of (l:= [(0,nmV n),(3,.c (.own 900 1 0 (nmR (n.take 0)).length)),(4,lv (.int .i64 ((0:Nat):Int)))]) (h:= [(900,.row (.recs 1 (nmR (n.take 0))))]) (by refine⟨?_,?_⟩<;>(repeat' (first | exact trivial | exact rfl | refine⟨?_,?_⟩))<;>first | exact rfl |(simp; done) | skip)) ?_
 refine z0h (ι:= {i:Nat//i≤n.length}) (fun i=>St.of [(0,nmV n),(3,.c (.own 900 1 0 (nmR (n.take i.1)).length)),(4,lv (.int .i64 (i.1:Int)))] [(900,.row (.recs 1 (nmR (n.take i.1))))]) (fun i=>n.length -i.1) (fun i=>?_) ⟨0,Nat.zero_le _⟩
 obtain⟨i,hi⟩:=i
 dsimp only
 have hmt:(nmR (n.take i)).length=i:=by rw[List.length_map,List.length_take]; omega
 have hlb:=hb1.1
 by_cases hi2:i<n.length
 ·have hq:n.getD (i:Int).toNat []=n.getD i []:=rfl
  have hbr:=hb1.2 _ (z1S (d:= []) hi2)
  have hsn:=z2j (d:= []) hi2
  generalize hA:n.getD i []=r at*
  have hmr:(r.map atL).length=r.length:=List.length_map ..
  repeat refine nx ?_
  refine z0N 5 901 2 (.recs 2 []) rfl rfl (.inr (.inr ⟨_,rfl⟩)) ?_
  refine z09 (St.le_of (l:= [(0,nmV n),(3,.c (.own 900 1 0 (nmR (n.take i)).length)),(4,lv (.int .i64 (i:Int))),(5,.c (.own 901 2 0 ((r.take 0).map atL).length)),(6,lv (.int .i64 ((0:Nat):Int)))]) (h:= [(900,.row (.recs 1 (nmR (n.take i)))),(901,.row (.recs 2 ((r.take 0).map atL)))]) (by refine⟨?_,?_⟩<;>(repeat' (first | exact trivial | exact rfl | refine⟨?_,?_⟩))<;>first | exact rfl |(simp; done) | skip)) ?_
  refine z0h (ι:= {j:Nat//j≤r.length}) (fun j=>St.of [(0,nmV n),(3,.c (.own 900 1 0 (nmR (n.take i)).length)),(4,lv (.int .i64 (i:Int))),(5,.c (.own 901 2 0 ((r.take j.1).map atL).length)),(6,lv (.int .i64 (j.1:Int)))] [(900,.row (.recs 1 (nmR (n.take i)))),(901,.row (.recs 2 ((r.take j.1).map atL)))]) (fun j=>r.length -j.1) (fun j=>?_) ⟨0,Nat.zero_le _⟩
  obtain⟨j,hj⟩:=j
  dsimp only
  have hrt:((r.take j).map atL).length=j:=by rw[List.length_map,List.length_take]; omega
  by_cases hj2:j<r.length
  ·have hq2:r.getD (j:Int).toNat default=r.getD j atD:=rfl
   have hsr:=z2j (d:=atD) hj2
   generalize hB:r.getD j atD=a at*
   obtain⟨o,v⟩:=a
   repeat (first | refine nxw ?_ | rw[hq])
   refine duF [105] [(19,105),(19,901)] ?_
   repeat (first | refine nx ?_ | rw[hq] | rw[hq2])
   refine z4i (fun a w h=>SR.mv 105 901 rfl rfl rfl rfl rfl h) ?_
   refine z07 ⟨j+1,by omega⟩ (by dsimp only; omega) (St.le_of ⟨⟨rfl,rfl,rfl,?_,rfl⟩,⟨rfl,?_⟩⟩)
   ·dsimp only; rw[hsr,z4U]; rfl
   ·dsimp only; rw[hsr,z4U]; rfl
  ·obtain rfl:j=r.length:=by omega
   repeat (first | refine nx ?_ | rw[hq])
   rw[List.take_length]
   refine zcA 43 ?_
   repeat refine nx ?_
   refine z07 ⟨i+1,by omega⟩ (by dsimp only; omega) (St.le_of ⟨⟨rfl,?_,rfl⟩,?_⟩)
   ·dsimp only; rw[hsn,z6f]; rfl
   ·dsimp only; rw[hsn,z6f]; rfl
 ·obtain rfl:i=n.length:=by omega
  rw[List.take_length]
  repeat refine nx ?_
  refine z2d 2 ?_
  exact rt1 []
theorem zkU (g:GnT) (h:GnB g):Ct Tryz.prog 77 [gnA g] [] (gnA g) [] []:=by
 have hn14:=zkT g.2.2 h.n
 obtain⟨k,b,n⟩:=g
 dsimp only at hn14
 refine z00 Tryz.func77 rfl rfl rfl rfl rfl (fun E hn hb=>?_)
 repeat refine nx ?_
 exact rt1 []
set_option maxHeartbeats 4000000 in
theorem zjc (l:List GnT) (hl:l.length≤16000000) (h:∀ g ∈ l,GnB g):Ct Tryz.prog 28 [gnV l] [] (gnV l) [] []:=by
 have hml:(gnR l).length=l.length:=List.length_map ..
 refine z00 Tryz.func28 rfl rfl rfl rfl rfl (fun E hn hb=>?_)
 repeat refine nx ?_
 refine z0N 3 900 3 (.recs 3 []) rfl rfl (.inr (.inr ⟨_,rfl⟩)) ?_
 refine z09 (St.le_of (l:= [(0,gnV l),(3,.c (.own 900 3 0 (gnR (l.take 0)).length)),(4,lv (.int .i64 ((0:Nat):Int)))]) (h:= [(900,.row (.recs 3 (gnR (l.take 0))))]) (by refine⟨?_,?_⟩<;>(repeat' (first | exact trivial | exact rfl | refine⟨?_,?_⟩))<;>first | exact rfl |(simp; done) | skip)) ?_
 refine z0h (ι:= {i:Nat//i≤l.length}) (fun i=>St.of [(0,gnV l),(3,.c (.own 900 3 0 (gnR (l.take i.1)).length)),(4,lv (.int .i64 (i.1:Int)))] [(900,.row (.recs 3 (gnR (l.take i.1))))]) (fun i=>l.length -i.1) (fun i=>?_) ⟨0,Nat.zero_le _⟩
 obtain⟨i,hi⟩:=i
 dsimp only
 have hmt:(gnR (l.take i)).length=i:=by rw[List.length_map,List.length_take]; omega
 by_cases hi2:i<l.length
 ·have hq:l.getD (i:Int).toNat default=l.getD i gn0:=rfl
  have hof:=zkU _ (h _ (z1S (d:=gn0) hi2))
  have hsn:=z2j (d:=gn0) hi2
  generalize l.getD i gn0=g at*
  obtain⟨k,b,n⟩:=g
  repeat (first | refine nx ?_ | rw[hq])
  refine z07 ⟨i+1,by omega⟩ (by dsimp only; omega) (St.le_of ⟨⟨rfl,?_,rfl⟩,?_⟩)
  ·dsimp only; rw[hsn,z3S]; rfl
  ·dsimp only; rw[hsn,z3S]; rfl
 ·obtain rfl:i=l.length:=by omega
  rw[List.take_length]
  repeat refine nx ?_
  refine z2d 2 ?_
  exact rt1 []
theorem zh6 (l:List Int) (hl:l.length≤16000000):Ct Tryz.prog 67 [I64 l,I64 l] [] (lv (.bool true)) [] []:=by
 refine z00 Tryz.func67 rfl rfl rfl rfl rfl (fun E hn hb=>?_)
 repeat refine nx ?_
 refine z09 (St.le_of (l:= [(0,I64 l),(1,I64 l),(4,lv (.bool false)),(5,lv (.int .i64 ((0:Nat):Int)))]) (h:= []) (by refine⟨?_,?_⟩<;>(repeat' (first | exact trivial | exact rfl | refine⟨?_,?_⟩))<;>first | exact rfl |(simp; done) | skip)) ?_
 refine z0h (ι:= {i:Nat//i≤l.length}) (fun i=>St.of [(0,I64 l),(1,I64 l),(4,lv (.bool false)),(5,lv (.int .i64 (i.1:Int)))] []) (fun i=>l.length -i.1) (fun i=>?_) ⟨0,Nat.zero_le _⟩
 obtain⟨i,hi⟩:=i
 dsimp only
 by_cases hi2:i<l.length
 ·repeat refine nx ?_
  refine z07 ⟨i+1,by omega⟩ (by dsimp only; omega) (St.le_of ⟨⟨rfl,rfl,rfl,rfl⟩,trivial⟩)
 ·repeat refine nx ?_
  exact rt1 []
set_option maxHeartbeats 8000000 in
theorem zbq (n:List (List AtT)) (hb1:NmB n):Ct Tryz.prog 76 [nmV n,nmV n] [] (lv (.bool true)) [] []:=by
 have hml:(n.map fun r=> [z2g r]).length=n.length:=List.length_map ..
 have hlb:=hb1.1
 refine z00 Tryz.func76 rfl rfl rfl rfl rfl (fun E hn hb=>?_)
 repeat refine nx ?_
 refine z09 (St.le_of (l:= [(0,nmV n),(1,nmV n),(4,lv (.bool false)),(5,lv (.int .i64 ((0:Nat):Int)))]) (h:= []) (by refine⟨?_,?_⟩<;>(repeat' (first | exact trivial | exact rfl | refine⟨?_,?_⟩))<;>first | exact rfl |(simp; done) | skip)) ?_
 refine z0h (ι:= {i:Nat//i≤n.length}) (fun i=>St.of [(0,nmV n),(1,nmV n),(4,lv (.bool false)),(5,lv (.int .i64 (i.1:Int)))] []) (fun i=>n.length -i.1) (fun i=>?_) ⟨0,Nat.zero_le _⟩
 obtain⟨i,hi⟩:=i
 dsimp only
 by_cases hi2:i<n.length
 ·have hq:n.getD (i:Int).toNat []=n.getD i []:=rfl
  have hbr:=hb1.2 _ (z1S (d:= []) hi2)
  generalize hA:n.getD i []=r at*
  have hmr:(r.map atL).length=r.length:=List.length_map ..
  have hrl:=hbr.1
  repeat (first | refine nx ?_ | rw[hq])
  refine z09 (St.le_of (l:= [(0,nmV n),(1,nmV n),(4,lv (.bool false)),(5,lv (.int .i64 (i:Int))),(6,lv (.int .i64 ((0:Nat):Int)))]) (h:= []) (by refine⟨?_,?_⟩<;>(repeat' (first | exact trivial | exact rfl | refine⟨?_,?_⟩))<;>first | exact rfl |(simp; done) | skip)) ?_
  refine z0h (ι:= {j:Nat//j≤r.length}) (fun j=>St.of [(0,nmV n),(1,nmV n),(4,lv (.bool false)),(5,lv (.int .i64 (i:Int))),(6,lv (.int .i64 (j.1:Int)))] []) (fun j=>r.length -j.1) (fun j=>?_) ⟨0,Nat.zero_le _⟩
  obtain⟨j,hj⟩:=j
  dsimp only
  by_cases hj2:j<r.length
  ·have hq2:r.getD (j:Int).toNat default=r.getD j atD:=rfl
   have hab:=hbr.2 _ (z1S (d:=atD) hj2)
   generalize hB:r.getD j atD=a at*
   obtain⟨o,v⟩:=a
   have h1:=zfD o o hab.o hab.o
   have h2:=zam v v (by have:=hab.l; dsimp only at this; omega) (by have:=hab.l; dsimp only at this; omega)
   rw[decide_eq_true rfl] at h1 h2
   repeat (first | refine nx ?_ | rw[hq] | rw[hq2])
   refine z07 ⟨j+1,by omega⟩ (by dsimp only; omega) (St.le_of ⟨⟨rfl,rfl,rfl,rfl,rfl⟩,trivial⟩)
  ·obtain rfl:j=r.length:=by omega
   repeat (first | refine nx ?_ | rw[hq])
   refine z07 ⟨i+1,by omega⟩ (by dsimp only; omega) (St.le_of ⟨⟨rfl,rfl,rfl,rfl⟩,trivial⟩)
 ·obtain rfl:i=n.length:=by omega
  repeat refine nx ?_
  exact rt1 []
set_option maxHeartbeats 8000000 in
theorem zh7 (l:List GnT) (hl:l.length≤16000000) (h:∀ g ∈ l,GnB g):Ct Tryz.prog 27 [gnV l,gnV l] [] (lv (.bool true)) [] []:=by
 have hml:(gnR l).length=l.length:=List.length_map ..
 refine z00 Tryz.func27 rfl rfl rfl rfl rfl (fun E hn hb=>?_)
 repeat refine nx ?_
 refine z09 (St.le_of (l:= [(0,gnV l),(1,gnV l),(4,lv (.bool false)),(5,lv (.int .i64 ((0:Nat):Int)))]) (h:= []) (by refine⟨?_,?_⟩<;>(repeat' (first | exact trivial | exact rfl | refine⟨?_,?_⟩))<;>first | exact rfl |(simp; done) | skip)) ?_
 refine z0h (ι:= {i:Nat//i≤l.length}) (fun i=>St.of [(0,gnV l),(1,gnV l),(4,lv (.bool false)),(5,lv (.int .i64 (i.1:Int)))] []) (fun i=>l.length -i.1) (fun i=>?_) ⟨0,Nat.zero_le _⟩
 obtain⟨i,hi⟩:=i
 dsimp only
 by_cases hi2:i<l.length
 ·have hq:l.getD (i:Int).toNat default=l.getD i gn0:=rfl
  have hab:=h _ (z1S (d:=gn0) hi2)
  generalize l.getD i gn0=g at*
  obtain⟨k,b,n⟩:=g
  have h1:=zbq n hab.n
  have h2:=zam b b (by have:=hab.l; dsimp only at this; omega) (by have:=hab.l; dsimp only at this; omega)
  rw[decide_eq_true rfl] at h2
  repeat (first | refine nx ?_ | rw[hq])
  refine z07 ⟨i+1,by omega⟩ (by dsimp only; omega) (St.le_of ⟨⟨rfl,rfl,rfl,rfl⟩,trivial⟩)
 ·obtain rfl:i=l.length:=by omega
  repeat refine nx ?_
  exact rt1 []
end Go.Proofs.YtaagjnlkinojcaaGreat
namespace Go.Proofs.YtaagjnlkinojcaaGreat
set_option linter.unusedSimpArgs false
set_option linter.unusedVariables false
open Go Go.Sx
set_option maxRecDepth 10000
theorem zbr (l:List Int) (us:List Value) (hl:l.length≤16000000):Ct Tryz.prog 84 [.c (.ptr 0 0)] [shG z2R false (.lf (.ints .u8 l)) (.own 1 5 0 0) 0,.fr us []] (.tup [B8 l,lv (.int .i64 0)]) [shG z2R false (.lf (.ints .u8 l)) (.own 1 5 0 0) 0,.fr us []] []:=by
 have h:=zc0 l hl
 refine z00 Tryz.func84 rfl rfl rfl rfl rfl (fun E hn hb=>?_)
 repeat refine nx ?_
 exact rt1 []
theorem zh8 (out:List (List Int)) (x:List Int) (h:out= []∨¬ 0<z0z (out.getD (out.length -1) []) x):z7m out x=out++ [x]:=by
 rcases h with rfl | h
 ·rfl
 ·have e:atO out x out.length=out.length:=by
   cases hl:out.length with
   | zero=>rfl
   | succ n=>rw[atO]; rw[hl] at h; exact if_neg h
  unfold z7m
  rw[e,List.take_length,List.drop_length]
theorem za8:∀(r p:List AtT),(p= []∨z23 (p.getD (p.length -1) atD::r)=true)→z23 r=true→z5g (r.map atW) (p.map atW)=(p++r).map atW
 | [],p,_,_=>by rw[List.map_nil,z5g,List.append_nil]
 | a::l,p,h1,h2=>by
   have e:z7m (p.map atW) (atW a)=(p++ [a]).map atW:=by
    rw[zh8,List.map_append]; rfl
    rcases h1 with rfl | h1
    ·exact .inl rfl
    ·by_cases hp:p= []
     ·subst hp; exact .inl rfl
     ·right
      have hpos:0<p.length:=List.length_pos_iff.2 hp
      have h3:z0z (atW (p.getD (p.length -1) atD)) (atW a)<0:=by
       rw[z23,Bool.and_eq_true,decide_eq_true_iff] at h1
       exact h1.1
      have e2:(p.map atW).getD ((p.map atW).length -1) []=atW (p.getD (p.length -1) atD):=by
       rw[List.length_map,List.getD_eq_getElem?_getD,List.getD_eq_getElem?_getD,List.getElem?_map,List.getElem?_eq_getElem (by omega)]
       rfl
      rw[e2]
      omega
   rw[List.map_cons,z5g,e,za8 l (p++ [a]) (.inr ?_) ?_]
   ·simp
   ·rw[List.length_append,List.length_singleton,Nat.add_sub_cancel,List.getD_eq_getElem?_getD,List.getElem?_append_right (Nat.le_refl _),Nat.sub_self]
    exact h2
   ·cases l with
    | nil=>rfl
    | cons b l=>
      rw[z23,Bool.and_eq_true] at h2
      exact h2.2
theorem za9 (r:List AtT) (h:z23 r=true):z4H (r.map atW)=r.map atW:=by
 rw[zcW]
 exact za8 r [] (.inl rfl) h
theorem zd2 {r:List AtT} (h:z0D r=true):1≤r.length∧r.length≤16∧r.all z1w=true∧z23 r=true:=by
 unfold z0D at h
 simp only[Bool.and_eq_true,decide_eq_true_iff] at h
 exact⟨h.1.1.1,h.1.1.2,h.1.2,h.2⟩
theorem zd3 (r:List AtT):(r.map atW).flatten=r.flatMap atW:=rfl
theorem zkV {r:List AtT} {a:AtT} (h:a ∈ r):(atW a).length≤(r.flatMap atW).length:=by
 obtain⟨s,t,rfl⟩:=List.append_of_mem h
 rw[List.flatMap_append,List.flatMap_cons,List.length_append,List.length_append]
 omega
theorem z8U (r:List AtT) (hb1:∀ a ∈ r,AtB a) (h:z0D r=true) (hl:(r.flatMap atW).length≤14400000):Ct Tryz.prog 142 [z39 r] [] (.tup [B8 (z0i r),lv (.int .i64 0)]) [] []:=by
 obtain⟨h1,h2,h3,h4⟩:=zd2 h
 have hw:=z8P r hb1 (by omega)
 rw[h,if_pos rfl] at hw
 have hs:=ziZ (r.map atW) (by rw[List.length_map]; omega) (fun x hx=>by
  obtain⟨a,ha,rfl⟩:=List.mem_map.1 hx
  have:=zkV ha
  show(atW a).length≤16000000
  omega) (by rw[za9 r h4,zd3]; omega)
 rw[za9 r h4,zd3] at hs
 unfold z0i
 refine z00 Tryz.func142 rfl rfl rfl rfl rfl (fun E hn hb=>?_)
 repeat refine nx ?_
 exact rt1 []
theorem zbs (r:List AtT):(r.flatMap atW).length≤(z0i r).length:=by
 unfold z0i z04
 rw[List.length_append]
 omega
theorem zeh {α:Type} (f:α→List Int) (l:List α) (i:Nat) (d:α) (h:i<l.length):(l.take (i+1)).flatMap f=(l.take i).flatMap f++f (l.getD i d):=by
 rw[z2j (d:=d) h,List.flatMap_append]
 simp
theorem zaa {α:Type} (f:α→List Int) (l:List α) (i:Nat):((l.take i).flatMap f).length≤(l.flatMap f).length:=by
 have:=(congrArg (fun x=>(List.flatMap f x).length) (List.take_append_drop i l):(List.flatMap f (l.take i++l.drop i)).length=(List.flatMap f l).length)
 rw[List.flatMap_append,List.length_append] at this
 omega
theorem zd4 (n:List (List AtT)) (hb1:NmB n) (h:z15 n=true) (hl:(n.flatMap z0i).length≤12800000):Ct Tryz.prog 181 [nmV n] [] (.tup [B8 (z1M n),lv (.int .i64 0)]) [] []:=by
 have hr:=z7h n hb1
 rw[h] at hr
 have hnw:=zey
 have hof:=z1G 16
 have ho:=zbI z2R (ofT 16) false []
 have hml:(n.map fun r=> [z2g r]).length=n.length:=List.length_map ..
 have hnl:=hb1.1
 unfold z15 at h
 rw[Bool.and_eq_true,List.all_eq_true] at h
 unfold z1M
 refine z00 Tryz.func181 rfl rfl rfl rfl rfl (fun E hn hb=>?_)
 repeat (first | refine nx ?_ | refine cm1 ?_)
 refine z93 (fun a w h=>SR.cell_nil 76 4 900 rfl rfl rfl rfl rfl h) ?_
 rw[show((List.length (n.map fun r=> [z2g r]):Nat):Int)=(n.length:Int) from congrArg _ hml]
 refine z09 (St.le_of (l:= [(0,nmV n),(4,.c (.ptr 76 0)),(16,nmV n),(17,lv (.int .i64 (n.length:Int))),(18,lv (.int .i64 ((0:Nat):Int)))]) (h:= [(76,shG (ofT 16) false (.own 900 1 0 ((n.take 0).flatMap z0i).length) (.own 79 5 0 1) 0),(79,.fr [] (frC z2R false (.own 1076 1 0 ([]:List Int).length))),(900,rB ((n.take 0).flatMap z0i)),(1076,rB [])]) (by refine⟨?_,?_⟩<;>(repeat' (first | exact trivial | exact rfl | refine⟨?_,?_⟩))<;>first | exact rfl |(simp; done) | skip)) ?_
 refine z0h (ι:= {i:Nat//i≤n.length}) (fun i=>St.of [(0,nmV n),(4,.c (.ptr 76 0)),(16,nmV n),(17,lv (.int .i64 (n.length:Int))),(18,lv (.int .i64 (i.1:Int)))] [(76,shG (ofT 16) false (.own 900 1 0 ((n.take i.1).flatMap z0i).length) (.own 79 5 0 1) 0),(79,.fr [] (frC z2R false (.own 1076 1 0 ([]:List Int).length))),(900,rB ((n.take i.1).flatMap z0i)),(1076,rB [])]) (fun i=>n.length -i.1) (fun i=>?_) ⟨0,Nat.zero_le _⟩
 obtain⟨i,hi⟩:=i
 dsimp only
 by_cases hi2:i<n.length
 ·have hq:n.getD (i:Int).toNat []=n.getD i []:=rfl
  have hmem:=z1S (d:= []) hi2
  have hok:=h.2 _ hmem
  have hbr:=hb1.2 _ hmem
  have hft:=zeh z0i n i [] hi2
  have hle:=zaa z0i n (i+1)
  have hsl:=zbs (n.getD i [])
  rw[hft,List.length_append] at hle
  have hwr:=z8U _ hbr.2 hok (by omega)
  generalize n.getD i []=r at*
  have hfa:=fun(a:Option Addr) (c:Nat)=>(z7w (ofT 16) false ((n.take i).flatMap z0i) 0 0 a 1 c).m
  have hpu:=fun(a:Option Addr) (c:Nat)=>z6H (ofT 16) false ((n.take i).flatMap z0i) [z0i r] a 1 c (Nat.le_of_ble_eq_true rfl) (by rw[show [z0i r].flatten=z0i r by simp]; omega)
  rw[show [z0i r].flatten=z0i r by simp,←hft] at hpu
  generalize z0i r=W at*
  repeat (first | refine nx ?_ | rw[hq])
  refine z1O (l:= [(0,nmV n),(4,.c (.ptr 76 0)),(7,B8 W),(16,nmV n),(17,lv (.int .i64 (n.length:Int))),(18,lv (.int .i64 (i:Int)))]) (hs:= [(76,shG (ofT 16) false (.own 900 1 0 ((n.take i).flatMap z0i).length) (.own 79 5 0 1) 0),(900,rB ((n.take i).flatMap z0i)),(79,.fr [] (frC z2R false (.own 1076 1 0 ([]:List Int).length))),(1076,rB [])]) [76,900] 76 5 hfa rfl rfl (by rw[hn]; rfl) rfl (fun _ _=>rfl) rfl rfl (fun _ _=>rfl) (fun _ _=>trivial) (fun _ _=>⟨rfl,⟨rfl,rfl⟩,(by simp[z0e]),rfl⟩) (fun _ _=>rfl) (fun _ _=>rfl) (fun _ _=>by repeat' (first | exact trivial | exact rfl | exact congrArg (fun x=>lv (.int .i64 x)) (by omega) | refine⟨?_,?_⟩)) ?_
  repeat refine nx ?_
  refine z1O (l:= [(0,nmV n),(4,.c (.ptr 76 0)),(7,B8 W),(16,nmV n),(17,lv (.int .i64 (n.length:Int))),(18,lv (.int .i64 (i:Int)))]) (hs:= [(76,shG (ofT 16) false (.own 97 1 0 ((n.take (i+1)).flatMap z0i).length) (.own 79 5 0 1) 0),(97,rB ((n.take (i+1)).flatMap z0i)),(79,.fr [] (frC z2R false (.own 1076 1 0 ([]:List Int).length))),(1076,rB [])]) [76,900] 76 5 hpu rfl rfl (by rw[hn]; rfl) rfl (fun _ _=>rfl) rfl rfl (fun _ _=>rfl) (fun _ _=>trivial) (fun _ _=>⟨rfl,⟨rfl,rfl⟩,(by simp[z0e]),rfl⟩) (fun _ _=>rfl) (fun _ _=>rfl) (fun _ _=>by repeat' (first | exact trivial | exact rfl | exact congrArg (fun x=>lv (.int .i64 x)) (by omega) | refine⟨?_,?_⟩)) ?_
  repeat refine nx ?_
  refine z4i (fun a w h=>SR.mv 97 900 rfl rfl rfl rfl rfl h) ?_
  refine z07 ⟨i+1,by omega⟩ (by dsimp only; omega) (St.le_of ⟨⟨rfl,rfl,rfl,rfl,rfl⟩,⟨rfl,rfl,rfl,rfl⟩⟩)
 ·obtain rfl:i=n.length:=by omega
  rw[List.take_length]
  have hsh:=z4p (ofT 16) z2R false (n.flatMap z0i) [] 0 [] rfl (by decide) (by rw[List.length_nil]; omega) (by decide)
  rw[List.nil_append] at hsh
  have hwl:=z0t (ofT 16) (n.flatMap z0i)
  have hby:=zbr (z04 (ofT 16) (n.flatMap z0i)) [] (by omega)
  generalize z04 (ofT 16) (n.flatMap z0i)=W at*
  repeat refine nx ?_
  refine z74 900 76 ?_
  refine z3d [76,79,1076] hsh rfl rfl (by rw[hn]; rfl) rfl rfl (by trivial) ⟨rfl,⟨rfl,rfl,rfl⟩,(by simp[z0e]),rfl⟩ ?_
  repeat refine nx ?_
  refine z74 100 76 ?_
  repeat refine nx ?_
  exact rt1 []
theorem zkW (k:Int):Ct Tryz.prog 182 [lv (.int .i64 k)] [] (z21 (2,k,z1n k)) [] []:=by
 have h1:=zbY k
 have h2:=z1j k (z1n k)
 refine z00 Tryz.func182 rfl rfl rfl rfl rfl (fun E hn hb=>?_)
 repeat refine nx ?_
 exact rt1 []
theorem zbt {g:GnT} (h:z0F g=true):z0q (2,g.1,z1n g.1)=true:=by
 obtain⟨h1,h2,_,_⟩:=z4Q h
 unfold z0q
 dsimp only
 rw[decide_eq_true_iff]
 omega
theorem zh9 (g:GnT) (hb1:GnB g) (h:z0F g=true) (hl:(g.2.2.flatMap z0i).length≤12800000):Ct Tryz.prog 138 [gnA g] [] (.tup [B8 (z0r g),lv (.int .i64 0)]) [] []:=by
 have hr:=z5a g hb1
 have ht:=zbt h
 rw[h] at hr
 obtain⟨k,b,n⟩:=g
 have htg:=zkW k
 unfold z0r
 dsimp only at*
 by_cases hk:k=4
 ·subst hk
  rw[if_pos rfl]
  have hno:z15 n=true:=by
   unfold z0F at h
   rw[if_pos rfl,Bool.and_eq_true] at h
   exact h.2
  have hn14:=zd4 n hb1.n hno hl
  have hnl:(z1M n).length≤14400000:=by
   have:=z0t (ofT 16) (n.flatMap z0i)
   unfold z1M
   omega
  generalize z1M n=W at*
  have hwr:=z7k (2,4,z1n 4) [W] (Nat.le_of_ble_eq_true rfl) (by rw[show [W].flatten=W by simp]; omega)
  rw[show [W].flatten=W by simp] at hwr
  unfold z4f at hwr
  rw[if_pos ht] at hwr
  dsimp only at hwr
  generalize z04 (2,4,z1n 4) W=V at*
  refine z00 Tryz.func138 rfl rfl rfl rfl rfl (fun E hn hb=>?_)
  repeat refine nx ?_
  exact rt1 []
 ·rw[if_neg hk]
  have hwr:=z7k (2,k,z1n k) [b] (Nat.le_of_ble_eq_true rfl) (by have:=hb1.l; dsimp only at this; rw[show [b].flatten=b by simp]; omega)
  rw[show [b].flatten=b by simp] at hwr
  unfold z4f at hwr
  rw[if_pos ht] at hwr
  dsimp only at hwr
  generalize z04 (2,k,z1n k) b=V at*
  refine z00 Tryz.func138 rfl rfl rfl rfl rfl (fun E hn hb=>?_)
  repeat refine nx ?_
  exact rt1 []
theorem zd5 {g:GnT} (h:z0F g=true):(g.2.2.flatMap z0i).length≤(z0r g).length:=by
 obtain⟨_,_,_,h4⟩:=z4Q h
 unfold z0r z04
 rw[List.length_append]
 by_cases hk:g.1=4
 ·rw[if_pos hk]
  unfold z1M z04
  simp only[List.length_append]
  omega
 ·rw[h4 hk]
  exact Nat.zero_le _
theorem z3f {l:List GnT} (h:z1Z l=true):0<l.length∧l.length≤10000∧∀ g ∈ l,z0F g=true:=by
 unfold z1Z at h
 rw[Bool.and_eq_true,Bool.and_eq_true,decide_eq_true_iff,decide_eq_true_iff,List.all_eq_true] at h
 exact⟨h.1.1,h.1.2,h.2⟩
set_option maxHeartbeats 4000000 in
theorem zd6 (l:List GnT) (hb1:∀ g ∈ l,GnB g) (h:z1Z l=true) (hl:(l.flatMap z0r).length≤12800000):Ct Tryz.prog 73 [gnV l] [] (.tup [B8 (l.flatMap z0r),lv (.int .i64 0)]) [] []:=by
 obtain⟨h1,h2,h3⟩:=z3f h
 have hml:(gnR l).length=l.length:=List.length_map ..
 refine z00 Tryz.func73 rfl rfl rfl rfl rfl (fun E hn hb=>?_)
 repeat refine nx ?_
 refine z06 rfl (by simp) (fun hc=>?_) (fun hc=>?_)
 ·exfalso
  rw[hml,show((l.length:Int)==0)=false by rw[beq_eq_false_iff_ne]; omega,show decide ((10000:Int)<(l.length:Int))=false by rw[decide_eq_false_iff_not]; omega] at hc
  cases hc
 clear hc
 repeat refine nx ?_
 rw[hml]
 refine z09 (St.le_of (l:= [(0,gnV l),(19,gnV l),(20,lv (.int .i64 (l.length:Int))),(21,lv (.int .i64 ((0:Nat):Int)))]) (h:= []) (by refine⟨?_,?_⟩<;>(repeat' (first | exact trivial | exact rfl | refine⟨?_,?_⟩))<;>first | exact rfl |(simp; done) | skip)) ?_
 refine z0h (ι:= {i:Nat//i≤l.length}) (fun i=>St.of [(0,gnV l),(19,gnV l),(20,lv (.int .i64 (l.length:Int))),(21,lv (.int .i64 (i.1:Int)))] []) (fun i=>l.length -i.1) (fun i=>?_) ⟨0,Nat.zero_le _⟩
 obtain⟨i,hi⟩:=i
 dsimp only
 by_cases hi2:i<l.length
 ·have hq:l.getD (i:Int).toNat default=l.getD i gn0:=rfl
  have hm:=z1S (d:=gn0) hi2
  have hw:=z5a _ (hb1 _ hm)
  rw[h3 _ hm] at hw
  clear hm
  generalize hA:l.getD i gn0=g at*
  obtain⟨k,b,n⟩:=g
  repeat (first | refine nx ?_ | rw[hq])
  refine z07 ⟨i+1,by omega⟩ (by dsimp only; omega) (St.le_of ⟨⟨rfl,rfl,rfl,rfl⟩,trivial⟩)
 ·obtain rfl:i=l.length:=by omega
  repeat refine nx ?_
  refine z0N 6 900 1 (.ints .u8 []) rfl rfl (.inr (.inl ⟨_,rfl⟩)) ?_
  rw[hml]
  refine z09 (St.le_of (l:= [(6,.c (.own 900 1 0 ((l.take 0).flatMap z0r).length)),(29,gnV l),(30,lv (.int .i64 (l.length:Int))),(31,lv (.int .i64 ((0:Nat):Int)))]) (h:= [(900,rB ((l.take 0).flatMap z0r))]) (by refine⟨?_,?_⟩<;>(repeat' (first | exact trivial | exact rfl | refine⟨?_,?_⟩))<;>first | exact rfl |(simp; done) | skip)) ?_
  refine z0h (ι:= {i:Nat//i≤l.length}) (fun i=>St.of [(6,.c (.own 900 1 0 ((l.take i.1).flatMap z0r).length)),(29,gnV l),(30,lv (.int .i64 (l.length:Int))),(31,lv (.int .i64 (i.1:Int)))] [(900,rB ((l.take i.1).flatMap z0r))]) (fun i=>l.length -i.1) (fun i=>?_) ⟨0,Nat.zero_le _⟩
  obtain⟨i,hi⟩:=i
  dsimp only
  by_cases hi2:i<l.length
  ·have hq:l.getD (i:Int).toNat default=l.getD i gn0:=rfl
   have hm:=z1S (d:=gn0) hi2
   have hft:=zeh z0r l i gn0 hi2
   have hle:=zaa z0r l (i+1)
   have hgl:=zd5 (h3 _ hm)
   rw[hft,List.length_append] at hle
   have hw:=zh9 _ (hb1 _ hm) (h3 _ hm) (by omega)
   clear hm
   generalize hA:l.getD i gn0=g at*
   obtain⟨k,b,n⟩:=g
   generalize z0r (k,b,n)=W at*
   generalize hL:(l.take i).flatMap z0r=L at*
   repeat (first | refine nx ?_ | rw[hq])
   refine z07 ⟨i+1,by omega⟩ (by dsimp only; omega) (St.le_of ⟨⟨?_,rfl,rfl,rfl⟩,?_⟩)
   ·dsimp only; rw[hft]; rfl
   ·dsimp only; rw[hft]; rfl
  ·obtain rfl:i=l.length:=by omega
   rw[List.take_length]
   repeat refine nx ?_
   refine z2d 2 ?_
   exact rt1 []
end Go.Proofs.YtaagjnlkinojcaaGreat

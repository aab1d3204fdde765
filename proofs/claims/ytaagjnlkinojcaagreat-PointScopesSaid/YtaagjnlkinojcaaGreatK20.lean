/-
  Chapter 16: scopes written by the program. The conditions: rows that a machine can hold.
-/
import Derived.Test.YtaagjnlkinojcaaGreatK17
import Derived.Test.YtaagjnlkinojcaaGreatJ9
import Derived.Test.YtaagjnlkinojcaaGreatE7
import Derived.Test.YtaagjnlkinojcaaGreatB16
import Derived.Test.YtaagjnlkinojcaaGreatJ5
import Derived.Test.YtaagjnlkinojcaaGreatQ29
namespace Go.Proofs.YtaagjnlkinojcaaGreat
set_option linter.unusedSimpArgs false
set_option linter.unusedVariables false
open Go Go.Sx
set_option maxRecDepth 10000
set_option maxHeartbeats 4000000 in
theorem zhm (k:Int) (r:List Int) (t:z0g) (l:List Int) (n:Nat) (us:List Value) (hk:0≤k∧k≤30) (hr:z0Z r=true) (hrl:r.length≤16000000) (hl:l.length≤14000000) (hu:us.length=5*n) (hn0:0<n) (hnl:n≤800):
  CtM Tryz.prog 82 [.agg [.ptr 0 0],lv (.int .i64 k),I64 r] [shG t false (.own 1 1 0 l.length) (.own 2 5 0 n) 0,rB l,.fr us []] (.tup []) [shG t false (.own 3 1 0 (l++z1E k r).length) (.own 4 5 0 n) 0,.gone,.gone] [rB (l++z1E k r),.fr us []]:=by
 unfold z1E
 by_cases h0:r.length=0
 ·rw[if_pos h0,List.append_nil]
  obtain rfl:=List.eq_nil_of_length_eq_zero h0
  refine z18 Tryz.func82 rfl rfl rfl rfl rfl (fun E hn hb=>?_)
  repeat refine nx ?_
  exact rtM [1,2]
 ·rw[if_neg h0]
  have hne:r≠ []:=fun e=>h0 (by rw[e]; rfl)
  obtain⟨q1,q2,q3⟩:=ziJ hr hne
  obtain⟨w1,w2⟩:=z9Q hr hne
  have hbo:=zgB r hrl q1
  have hcl:=congrArg List.length q3
  rw[List.length_cons] at hcl
  have hbc:=zje (uOf r) (bOf r) (by omega) (fun x hx=>w1 x (by rw[←q3]; exact List.mem_cons_of_mem _ hx))
  rw[q2,if_pos rfl,if_pos rfl,q3] at hbc
  change Ct _ _ _ _ (.tup [z3t (uOf r) (bOf r),_]) _ _ at hbo
  have hat:=z1j k false
  have hrt:z0q (2,k,false)=true:=by unfold z0q; dsimp only; rw[decide_eq_true_iff]; omega
  have ho:=z7x t (2,k,false) false l n us hu hn0 (by omega)
  have hf:=fun(a:Option Addr) (c:Nat)=>(z7w t false l 0 0 a n c).m
  have hpu:=fun(a:Option Addr) (c:Nat)=>z6H (2,k,false) false [] [flC r] a (n+1) c (Nat.le_of_ble_eq_true rfl) (by rw[show [flC r].flatten=flC r by simp,List.length_nil]; omega)
  rw[show [flC r].flatten=flC r by simp,List.nil_append] at hpu
  have hsh:=z4p (2,k,false) t false (flC r) l n us hu hrt (by omega) (by omega)
  generalize z04 (2,k,false) (flC r)=W at*
  generalize flC r=C at*
  generalize uOf r=u at*
  generalize bOf r=B at*
  refine z18 Tryz.func82 rfl rfl rfl rfl rfl (fun E hn hb=>?_)
  repeat refine nx ?_
  refine z1O (l:= [(1,lv (.int .i64 k)),(3,.c (.ptr 67 0)),(6,.c (.ptr 70 0)),(7,lv (.int .i64 0))]) (hs:= [(0,shG t false (.own 1 1 0 l.length) (.own 2 5 0 n) 0),(1,rB l),(2,.fr us []),(67,.cells [.ptr 0 0]),(70,.cells [.lf (.v (.int .i64 u)),.lf (.ints .u8 B)])]) [0,1] 0 5 hf rfl rfl (by rw[hn]; rfl) rfl (fun _ _=>rfl) rfl rfl (fun _ _=>rfl) (fun _ _=>trivial) (fun _ _=>⟨rfl,⟨rfl,rfl⟩,(by simp[z0e]),rfl⟩) (fun _ _=>rfl) (fun _ _=>rfl) (fun _ _=>by repeat' (first | exact trivial | exact rfl | exact congrArg (fun x=>lv (.int .i64 x)) (by omega) | refine⟨?_,?_⟩)) ?_
  repeat refine nx ?_
  refine z1O (l:= [(1,lv (.int .i64 k)),(3,.c (.ptr 67 0)),(8,B8 C)]) (hs:= [(0,shG t false (.own 1 1 0 l.length) (.own 2 5 0 n) 0),(1,rB l),(2,.fr us []),(67,.cells [.ptr 0 0])]) [0,1] 0 5 hf rfl rfl (by rw[hn]; rfl) rfl (fun _ _=>rfl) rfl rfl (fun _ _=>rfl) (fun _ _=>trivial) (fun _ _=>⟨rfl,⟨rfl,rfl⟩,(by simp[z0e]),rfl⟩) (fun _ _=>rfl) (fun _ _=>rfl) (fun _ _=>by repeat' (first | exact trivial | exact rfl | exact congrArg (fun x=>lv (.int .i64 x)) (by omega) | refine⟨?_,?_⟩)) ?_
  repeat refine nxw ?_
  refine duF [98] [(4,0),(4,1),(4,2),(4,98)] ?_
  repeat (first | refine nx ?_ | refine zaI [0,1,2] hn ho ?_)
  refine z66 (fun a w h=>SR.cell_nil 0 4 900 rfl rfl rfl rfl rfl h) ?_
  repeat refine nx ?_
  refine z1O (l:= [(3,.c (.ptr 67 0))]) (hs:= [(0,shG (2,k,false) false (.own 103 1 0 C.length) (.own 98 5 0 (n+1)) 0),(1,rB l),(103,rB C),(67,.cells [.ptr 0 0]),(98,.fr us (frC t false (.own 1 1 0 l.length)))]) [0,900] 0 5 hpu rfl rfl (by rw[hn]; rfl) rfl (fun _ _=>rfl) rfl rfl (fun _ _=>rfl) (fun _ _=>trivial) (fun _ _=>⟨rfl,⟨rfl,rfl⟩,(by simp[z0e]),rfl⟩) (fun _ _=>rfl) (fun _ _=>rfl) (fun _ _=>by repeat' (first | exact trivial | exact rfl | exact congrArg (fun x=>lv (.int .i64 x)) (by omega) | refine⟨?_,?_⟩)) ?_
  repeat refine nx ?_
  refine z74 103 0 ?_
  refine z3d [0,98,1] hsh rfl rfl (by rw[hn]; rfl) rfl rfl (by trivial) ⟨rfl,⟨rfl,rfl,rfl⟩,(by simp[z0e]),rfl⟩ ?_
  repeat refine nx ?_
  exact rtN [106,98]
theorem zl5 (t:z0g) (b:List Int) (n:Int) (h:z0q t=true) (hb:b.length≤16777216):z8D n (z04 t b)=z4f (2,n,t.2.2) b:=by
 have h1:=zpB [] b [] t h hb
 rw[List.nil_append,List.append_nil,List.length_nil,Nat.zero_add] at h1
 unfold z8D
 rw[h1]
 dsimp only
 rw[if_neg (by simp),if_neg (Nat.lt_irrefl _)]
set_option maxHeartbeats 8000000 in
theorem zhn (o:Option WhT) (t:z0g) (l:List Int) (n:Nat) (us:List Value) (hok:z5q o=true) (hv:∀ w,o=some w→WhV w) (hpl:(z1g o).length≤11900000) (hl:l.length≤1000000) (hu:us.length=5*n) (hn0:0<n) (hnl:n≤700):
  CtM Tryz.prog 80 [.agg [.ptr 0 0],wpV o] [shG t false (.own 1 1 0 l.length) (.own 2 5 0 n) 0,rB l,.fr us []] (.tup []) [shG t false (.own 3 1 0 (l++z1g o).length) (.own 4 5 0 n) 0,.gone,.gone] [rB (l++z1g o),.fr us []]:=by
 cases o with
 | none=>
   rw[show z1g none= [] from rfl,List.append_nil]
   refine z18 Tryz.func80 rfl rfl rfl rfl rfl (fun E hn hb=>?_)
   repeat refine nx ?_
   exact rtM [1,2]
 | some w=>
   have hv:=hv w rfl
   have hvb:=hv.b
   obtain⟨g,s⟩:=w
   have hok:z2Q (g,s)=true:=hok
   unfold z2Q at hok
   have hat:=z1j 0 true
   have ho:=z7x t (2,0,true) false l n us hu hn0 (by omega)
   by_cases hs:0<s.length
   ·rw[if_pos hs,Bool.and_eq_true,decide_eq_true_iff] at hok
    obtain⟨k1,k2⟩:=hok
    have hp:z1g (some (g,s))=z04 (2,0,true) (z04 (2,1,true) (s.flatMap atW)):=by
     show z04 (2,0,true) (z2H (g,s))=_
     unfold z2H
     rw[if_pos hs]
    rw[hp] at hpl ⊢
    have hss:=hv.s
    dsimp only at hss
    have hw:=z8U s hvb.a k2 (by omega)
    have hsl:=z0t (ofT 17) (s.flatMap atW)
    have himp:=zdK 1 (z0i s) (by have:=z5i (2,0,true) (z04 (2,1,true) (s.flatMap atW)); have:=z5i (2,1,true) (s.flatMap atW); unfold z0i; omega) (zkL _ _ (by decide) hv.w)
    have hia:z8D 1 (z04 (ofT 17) (s.flatMap atW))=z4f (2,1,true) (s.flatMap atW):=zl5 (ofT 17) (s.flatMap atW) 1 (by decide) (by omega)
    rw[show z0i s=z04 (ofT 17) (s.flatMap atW) from rfl] at himp hw
    rw[hia] at himp
    unfold z4f at himp
    rw[if_pos (by decide)] at himp
    dsimp only at himp
    have hf:=fun(a:Option Addr) (c:Nat)=>(z7w (2,0,true) false [] 0 0 a (n+1) c).m
    have hpu:=fun(a:Option Addr) (c:Nat)=>z6H (2,0,true) false [] [z04 (2,1,true) (s.flatMap atW)] a (n+1) c (Nat.le_of_ble_eq_true rfl) (by rw[show [z04 (2,1,true) (s.flatMap atW)].flatten=z04 (2,1,true) (s.flatMap atW) by simp,List.length_nil]; have:=z0t (2,1,true) (s.flatMap atW); omega)
    rw[show [z04 (2,1,true) (s.flatMap atW)].flatten=z04 (2,1,true) (s.flatMap atW) by simp,List.nil_append] at hpu
    have hsh:=z4p (2,0,true) t false (z04 (2,1,true) (s.flatMap atW)) l n us hu (by decide) (by have:=z0t (2,1,true) (s.flatMap atW); omega) (by omega)
    have hml:(s.map atL).length=s.length:=List.length_map ..
    generalize z04 (2,1,true) (s.flatMap atW)=C at*
    generalize z04 (2,0,true) C=W at*
    generalize z04 (ofT 17) (s.flatMap atW)=D at*
    refine z18 Tryz.func80 rfl rfl rfl rfl rfl (fun E hn hb=>?_)
    repeat refine nxw ?_
    refine duF [75] [(3,0),(3,1),(3,2),(3,75)] ?_
    repeat (first | refine nx ?_ | refine zaI [0,1,2] hn ho ?_)
    refine z66 (fun a w h=>SR.cell_nil 0 4 900 rfl rfl rfl rfl rfl h) ?_
    repeat refine nx ?_
    refine z1O (l:= [(2,.c (.ptr 66 0)),(4,B8 D)]) (hs:= [(0,shG (2,0,true) false (.own 900 1 0 ([]:List Int).length) (.own 75 5 0 (n+1)) 0),(1,rB l),(900,rB []),(66,.cells [.ptr 0 0]),(75,.fr us (frC t false (.own 1 1 0 l.length)))]) [0,900] 0 5 hf rfl rfl (by rw[hn]; rfl) rfl (fun _ _=>rfl) rfl rfl (fun _ _=>rfl) (fun _ _=>trivial) (fun _ _=>⟨rfl,⟨rfl,rfl⟩,(by simp[z0e]),rfl⟩) (fun _ _=>rfl) (fun _ _=>rfl) (fun _ _=>by repeat' (first | exact trivial | exact rfl | exact congrArg (fun x=>lv (.int .i64 x)) (by omega) | refine⟨?_,?_⟩)) ?_
    repeat refine nx ?_
    refine z1O (l:= [(2,.c (.ptr 66 0)),(4,B8 C)]) (hs:= [(0,shG (2,0,true) false (.own 900 1 0 ([]:List Int).length) (.own 75 5 0 (n+1)) 0),(1,rB l),(900,rB []),(66,.cells [.ptr 0 0]),(75,.fr us (frC t false (.own 1 1 0 l.length)))]) [0,900] 0 5 hf rfl rfl (by rw[hn]; rfl) rfl (fun _ _=>rfl) rfl rfl (fun _ _=>rfl) (fun _ _=>trivial) (fun _ _=>⟨rfl,⟨rfl,rfl⟩,(by simp[z0e]),rfl⟩) (fun _ _=>rfl) (fun _ _=>rfl) (fun _ _=>by repeat' (first | exact trivial | exact rfl | exact congrArg (fun x=>lv (.int .i64 x)) (by omega) | refine⟨?_,?_⟩)) ?_
    repeat refine nx ?_
    refine z1O (l:= [(2,.c (.ptr 66 0))]) (hs:= [(0,shG (2,0,true) false (.own 107 1 0 C.length) (.own 75 5 0 (n+1)) 0),(1,rB l),(107,rB C),(66,.cells [.ptr 0 0]),(75,.fr us (frC t false (.own 1 1 0 l.length)))]) [0,900] 0 5 hpu rfl rfl (by rw[hn]; rfl) rfl (fun _ _=>rfl) rfl rfl (fun _ _=>rfl) (fun _ _=>trivial) (fun _ _=>⟨rfl,⟨rfl,rfl⟩,(by simp[z0e]),rfl⟩) (fun _ _=>rfl) (fun _ _=>rfl) (fun _ _=>by repeat' (first | exact trivial | exact rfl | exact congrArg (fun x=>lv (.int .i64 x)) (by omega) | refine⟨?_,?_⟩)) ?_
    repeat refine nx ?_
    refine z74 107 0 ?_
    refine z3d [0,75,1] hsh rfl rfl (by rw[hn]; rfl) rfl rfl (by trivial) ⟨rfl,⟨rfl,rfl,rfl⟩,(by simp[z0e]),rfl⟩ ?_
    repeat refine nx ?_
    exact rtN [116,75]
   ·rw[if_neg hs] at hok
    have hp:z1g (some (g,s))=z04 (2,0,true) (z04 (2,0,true) (g.flatMap z0r)):=by
     show z04 (2,0,true) (z2H (g,s))=_
     unfold z2H
     rw[if_neg hs]
    rw[hp] at hpl ⊢
    obtain rfl:=List.eq_nil_of_length_eq_zero (show s.length=0 by omega)
    have hok:z1Z g=true:=hok
    have hgl:=hv.l
    dsimp only at hgl
    have hg0:¬ g.length=0:=by have:=(z3f hok).1; omega
    have hX:(g.flatMap z0r).length≤11900000:=by have:=z5i (2,0,true) (z04 (2,0,true) (g.flatMap z0r)); have:=z5i (2,0,true) (g.flatMap z0r); omega
    have hnm:=fun(vs:List Value) (hvs:vs.length=us.length+(frC t false (.own 1 1 0 l.length)).length)=>zhz 0 g (2,0,true) [] (n+1) vs (by decide) (.inr hok) hvb.g (by omega) (by rw[List.length_nil]; omega) (by rw[hvs,hu]; show 5*n+5=_; omega) (by omega) (by omega)
    unfold tnW at hnm
    rw[if_neg hg0] at hnm
    simp only[List.nil_append] at hnm
    have hsh:=z4p (2,0,true) t false (z04 (2,0,true) (g.flatMap z0r)) l n us hu (by decide) (by have:=z0t (2,0,true) (g.flatMap z0r); omega) (by omega)
    generalize z04 (2,0,true) (g.flatMap z0r)=C at*
    generalize z04 (2,0,true) C=W at*
    refine z18 Tryz.func80 rfl rfl rfl rfl rfl (fun E hn hb=>?_)
    repeat refine nxw ?_
    refine duF [75] [(3,0),(3,1),(3,2),(3,75)] ?_
    repeat (first | refine nxw ?_ | refine zaI [0,1,2] hn ho ?_)
    refine z93 (fun a w h=>SR.cell_nil 0 4 900 rfl rfl rfl rfl rfl h) ?_
    refine z09 (St.le_of (l:= [(1,wpV (some (g,[]))),(2,.c (.ptr 66 0))]) (h:= [(0,shG (2,0,true) false (.own 900 1 0 ([]:List Int).length) (.own 75 5 0 (n+1)) 0),(1,rB l),(900,rB []),(66,.cells [.ptr 0 0]),(75,.fr us (frC t false (.own 1 1 0 l.length)))]) (by refine⟨?_,?_⟩<;>(repeat' (first | exact trivial | exact rfl | refine⟨?_,?_⟩))<;>first | exact rfl |(simp; done) | skip)) ?_
    refine z2V 5 (by kernel_rfl) (by kernel_rfl) (by kernel_rfl) (by rw[hn]; rfl) rfl rfl ?_
    repeat (first | refine dp1 ?_ | refine dg1 ?_ | refine z1i ?_)
    refine z4n (nn:=2) (l:= [(2,.c (.ptr 66 0))]) (hs:= [(0,shG (2,0,true) false (.own 113 1 0 C.length) (.own 1113 5 0 (n+1)) 0),(1,rB l),(113,rB C),(66,.cells [.ptr 0 0]),(1113,.fr us (frC t false (.own 1 1 0 l.length)))]) [0,900,75] 75 1113 (fun vs hv=>hnm vs hv) rfl rfl (by rw[hn]; rfl) rfl (fun _=>rfl) rfl (fun _=>rfl) (fun _=>trivial) (fun vs=>⟨rfl,⟨rfl,rfl,rfl⟩,(by simp[z0e]),rfl⟩) (fun _=>rfl) (fun vs=>by repeat' (first | exact trivial | exact rfl | exact congrArg (fun x=>lv (.int .i64 x)) (by omega) | refine⟨?_,?_⟩)) ?_
    repeat refine nx ?_
    refine z74 113 0 ?_
    refine z3d [0,1113,1] hsh rfl rfl (by rw[hn]; rfl) rfl rfl (by trivial) ⟨rfl,⟨rfl,rfl,rfl⟩,(by simp[z0e]),rfl⟩ ?_
    repeat refine nx ?_
    exact rtN [116,1113]
abbrev frD (j:Nat):List Cell:=frC z2R false (.own j 1 0 ([]:List Int).length)
set_option maxHeartbeats 16000000 in
theorem zho (o:Option WhT) (f:Bool×Bool×Bool×Bool) (r:List Int) (h:z4M o) (hl:r.length≤16000000) (hv:∀ w,o=some w→z2Q w=true→WhV w) (hpl:z5q o=true→(z1g o).length≤11000000):
  Ct Tryz.prog 31 [z6X o f r] [] (.tup [B8 (if z3E (o,f,r)=true then z3R (o,f,r) else []),lv (.int .i64 (if z3E (o,f,r)=true then 0 else 1))]) [] []:=by
 have hr:=z6Y o f r h hl
 by_cases hk:z3E (o,f,r)=true
 ·rw[if_pos hk,if_pos hk]
  rw[hk] at hr
  obtain⟨k1,k2⟩:=z7s hk
  have hpl:=hpl k1
  have hnw:=zey
  have hof:=z1G 16
  have ho:=zbI z2R (ofT 16) false []
  have hvw:∀ w,o=some w→WhV w:=fun w e=>hv w e (by subst e; exact k1)
  have q0:=fun(vs:List Value) (hvs:vs.length=([]:List Value).length+(frD 1072).length)=>zhn o (ofT 16) [] 1 vs k1 hvw (by omega) (Nat.zero_le _) hvs (by decide) (by decide)
  have l1:=z2r 1 f.1
  have l2:=z2r 2 f.2.1
  have l3:=z98 3 k2
  have l4:=z2r 4 f.2.2.1
  have l5:=z2r 5 f.2.2.2
  dsimp only at k2 l3
  have q1:=fun(vs:List Value) (hvs:vs.length=([]:List Value).length+(frD 1072).length)=>z6j 1 f.1 (ofT 16) (z1g o) 1 vs (by decide) (by omega) hvs (by decide) (by decide)
  have q2:=fun(vs:List Value) (hvs:vs.length=([]:List Value).length+(frD 1072).length)=>z6j 2 f.2.1 (ofT 16) (z1g o++z0p 1 f.1) 1 vs (by decide) (by simp only[List.length_append]; omega) hvs (by decide) (by decide)
  have q3:=fun(vs:List Value) (hvs:vs.length=([]:List Value).length+(frD 1072).length)=>zhm 3 r (ofT 16) (z1g o++z0p 1 f.1++z0p 2 f.2.1) 1 vs (by decide) k2 hl (by simp only[List.length_append]; omega) hvs (by decide) (by decide)
  have q4:=fun(vs:List Value) (hvs:vs.length=([]:List Value).length+(frD 1072).length)=>z6j 4 f.2.2.1 (ofT 16) (z1g o++z0p 1 f.1++z0p 2 f.2.1++z1E 3 r) 1 vs (by decide) (by simp only[List.length_append]; omega) hvs (by decide) (by decide)
  have q5:=fun(vs:List Value) (hvs:vs.length=([]:List Value).length+(frD 1072).length)=>z6j 5 f.2.2.2 (ofT 16) (z1g o++z0p 1 f.1++z0p 2 f.2.1++z1E 3 r++z0p 4 f.2.2.1) 1 vs (by decide) (by simp only[List.length_append]; omega) hvs (by decide) (by decide)
  simp only[List.nil_append] at q0
  have e:z3R (o,f,r)=z04 (ofT 16) (z1g o++z0p 1 f.1++z0p 2 f.2.1++z1E 3 r++z0p 4 f.2.2.1++z0p 5 f.2.2.2):=by
   unfold z3R z60
   simp only[List.append_assoc]
  rw[e]
  generalize z1g o=P at*
  generalize z0p 1 f.1=T1 at*
  generalize z0p 2 f.2.1=T2 at*
  generalize z1E 3 r=T3 at*
  generalize z0p 4 f.2.2.1=T4 at*
  generalize z0p 5 f.2.2.2=T5 at*
  have hbl:(P++T1++T2++T3++T4++T5).length≤11000200:=by simp only[List.length_append]; omega
  have hsh:=z4p (ofT 16) z2R false (P++T1++T2++T3++T4++T5) [] 0 [] rfl (by decide) (by rw[List.length_nil]; omega) (by decide)
  rw[List.nil_append] at hsh
  have hwl:=z0t (ofT 16) (P++T1++T2++T3++T4++T5)
  have hby:=zbr (z04 (ofT 16) (P++T1++T2++T3++T4++T5)) [] (by omega)
  generalize z04 (ofT 16) (P++T1++T2++T3++T4++T5)=W at*
  obtain⟨f1,f2,f3,f4⟩:=f
  dsimp only at q1 q2 q4 q5
  rcases o with _ |⟨g',s'⟩
  all_goals
   refine z00 Tryz.func31 rfl rfl rfl rfl rfl (fun E hn hb=>?_)
   repeat refine nxw ?_
   refine duF [77] [(3,72),(3,1072),(3,77)] ?_
   repeat (first | refine nx ?_ | refine zaI [72,1072] hn ho ?_)
   refine z66 (fun a w h=>SR.cell_nil 72 4 900 rfl rfl rfl rfl rfl h) ?_
   repeat refine nx ?_
   refine z4n (nn:=2) (l:= [(1,.c (.ptr 65 0)),(4,.c (.ptr 68 0))]) (hs:= [(72,shG (ofT 16) false (.own 81 1 0 (P).length) (.own 1081 5 0 1) 0),(81,rB (P)),(1081,.fr [] (frD 1072)),(1072,rB []),(65,.cells [.lf _,.lf (.v (.bool f1)),.lf (.v (.bool f2)),.lf (.v (.bool f3)),.lf (.v (.bool f4)),.lf (.ints .i64 r)]),(68,.cells [.ptr 72 0])]) [72,900,77] 77 1081 (fun vs hv=>q0 vs hv) rfl rfl (by rw[hn]; rfl) rfl (fun _=>rfl) rfl (fun _=>rfl) (fun _=>trivial) (fun vs=>⟨rfl,⟨rfl,rfl,rfl⟩,(by simp[z0e]),rfl⟩) (fun _=>rfl) (fun vs=>by repeat' (first | exact trivial | exact rfl | exact congrArg (fun x=>lv (.int .i64 x)) (by omega) | refine⟨?_,?_⟩)) ?_
   repeat refine nx ?_
   refine z4n (nn:=2) (l:= [(1,.c (.ptr 65 0)),(4,.c (.ptr 68 0))]) (hs:= [(72,shG (ofT 16) false (.own 85 1 0 (P++T1).length) (.own 1085 5 0 1) 0),(85,rB (P++T1)),(1085,.fr [] (frD 1072)),(1072,rB []),(65,.cells [.lf _,.lf (.v (.bool f1)),.lf (.v (.bool f2)),.lf (.v (.bool f3)),.lf (.v (.bool f4)),.lf (.ints .i64 r)]),(68,.cells [.ptr 72 0])]) [72,81,1081] 1081 1085 (fun vs hv=>q1 vs hv) rfl rfl (by rw[hn]; rfl) rfl (fun _=>rfl) rfl (fun _=>rfl) (fun _=>trivial) (fun vs=>⟨rfl,⟨rfl,rfl,rfl⟩,(by simp[z0e]),rfl⟩) (fun _=>rfl) (fun vs=>by repeat' (first | exact trivial | exact rfl | exact congrArg (fun x=>lv (.int .i64 x)) (by omega) | refine⟨?_,?_⟩)) ?_
   repeat refine nx ?_
   refine z4n (nn:=2) (l:= [(1,.c (.ptr 65 0)),(4,.c (.ptr 68 0))]) (hs:= [(72,shG (ofT 16) false (.own 89 1 0 (P++T1++T2).length) (.own 1089 5 0 1) 0),(89,rB (P++T1++T2)),(1089,.fr [] (frD 1072)),(1072,rB []),(65,.cells [.lf _,.lf (.v (.bool f1)),.lf (.v (.bool f2)),.lf (.v (.bool f3)),.lf (.v (.bool f4)),.lf (.ints .i64 r)]),(68,.cells [.ptr 72 0])]) [72,85,1085] 1085 1089 (fun vs hv=>q2 vs hv) rfl rfl (by rw[hn]; rfl) rfl (fun _=>rfl) rfl (fun _=>rfl) (fun _=>trivial) (fun vs=>⟨rfl,⟨rfl,rfl,rfl⟩,(by simp[z0e]),rfl⟩) (fun _=>rfl) (fun vs=>by repeat' (first | exact trivial | exact rfl | exact congrArg (fun x=>lv (.int .i64 x)) (by omega) | refine⟨?_,?_⟩)) ?_
   repeat refine nx ?_
   refine z4n (nn:=2) (l:= [(1,.c (.ptr 65 0)),(4,.c (.ptr 68 0))]) (hs:= [(72,shG (ofT 16) false (.own 93 1 0 (P++T1++T2++T3).length) (.own 1093 5 0 1) 0),(93,rB (P++T1++T2++T3)),(1093,.fr [] (frD 1072)),(1072,rB []),(65,.cells [.lf _,.lf (.v (.bool f1)),.lf (.v (.bool f2)),.lf (.v (.bool f3)),.lf (.v (.bool f4)),.lf (.ints .i64 r)]),(68,.cells [.ptr 72 0])]) [72,89,1089] 1089 1093 (fun vs hv=>q3 vs hv) rfl rfl (by rw[hn]; rfl) rfl (fun _=>rfl) rfl (fun _=>rfl) (fun _=>trivial) (fun vs=>⟨rfl,⟨rfl,rfl,rfl⟩,(by simp[z0e]),rfl⟩) (fun _=>rfl) (fun vs=>by repeat' (first | exact trivial | exact rfl | exact congrArg (fun x=>lv (.int .i64 x)) (by omega) | refine⟨?_,?_⟩)) ?_
   repeat refine nx ?_
   refine z4n (nn:=2) (l:= [(1,.c (.ptr 65 0)),(4,.c (.ptr 68 0))]) (hs:= [(72,shG (ofT 16) false (.own 97 1 0 (P++T1++T2++T3++T4).length) (.own 1097 5 0 1) 0),(97,rB (P++T1++T2++T3++T4)),(1097,.fr [] (frD 1072)),(1072,rB []),(65,.cells [.lf _,.lf (.v (.bool f1)),.lf (.v (.bool f2)),.lf (.v (.bool f3)),.lf (.v (.bool f4)),.lf (.ints .i64 r)]),(68,.cells [.ptr 72 0])]) [72,93,1093] 1093 1097 (fun vs hv=>q4 vs hv) rfl rfl (by rw[hn]; rfl) rfl (fun _=>rfl) rfl (fun _=>rfl) (fun _=>trivial) (fun vs=>⟨rfl,⟨rfl,rfl,rfl⟩,(by simp[z0e]),rfl⟩) (fun _=>rfl) (fun vs=>by repeat' (first | exact trivial | exact rfl | exact congrArg (fun x=>lv (.int .i64 x)) (by omega) | refine⟨?_,?_⟩)) ?_
   repeat refine nx ?_
   refine z4n (nn:=2) (l:= [(1,.c (.ptr 65 0)),(4,.c (.ptr 68 0))]) (hs:= [(72,shG (ofT 16) false (.own 101 1 0 (P++T1++T2++T3++T4++T5).length) (.own 1101 5 0 1) 0),(101,rB (P++T1++T2++T3++T4++T5)),(1101,.fr [] (frD 1072)),(1072,rB []),(65,.cells [.lf _,.lf (.v (.bool f1)),.lf (.v (.bool f2)),.lf (.v (.bool f3)),.lf (.v (.bool f4)),.lf (.ints .i64 r)]),(68,.cells [.ptr 72 0])]) [72,97,1097] 1097 1101 (fun vs hv=>q5 vs hv) rfl rfl (by rw[hn]; rfl) rfl (fun _=>rfl) rfl (fun _=>rfl) (fun _=>trivial) (fun vs=>⟨rfl,⟨rfl,rfl,rfl⟩,(by simp[z0e]),rfl⟩) (fun _=>rfl) (fun vs=>by repeat' (first | exact trivial | exact rfl | exact congrArg (fun x=>lv (.int .i64 x)) (by omega) | refine⟨?_,?_⟩)) ?_
   repeat refine nx ?_
   refine z74 101 72 ?_
   refine z3d [72,1101,1072] hsh rfl rfl (by rw[hn]; rfl) rfl rfl (by trivial) ⟨rfl,⟨rfl,rfl,rfl⟩,(by simp[z0e]),rfl⟩ ?_
   repeat refine nx ?_
   refine z74 104 72 ?_
   repeat refine nx ?_
   exact rt1 []
 ·rw[if_neg hk,if_neg hk]
  rw[Bool.not_eq_true] at hk
  rw[hk] at hr
  obtain⟨f1,f2,f3,f4⟩:=f
  rcases o with _ |⟨g',s'⟩
  all_goals
   refine z00 Tryz.func31 rfl rfl rfl rfl rfl (fun E hn hb=>?_)
   repeat refine nx ?_
   exact rtU []
end Go.Proofs.YtaagjnlkinojcaaGreat

/-
  Chapter 16: what the laws hand over is small: places and scopes; the law PointScopes. The conditions: rows that a machine can hold.
-/
import Derived.Test.YtaagjnlkinojcaaGreatK17
import Derived.Test.YtaagjnlkinojcaaGreatQ20
import Derived.Test.YtaagjnlkinojcaaGreatE8
import Derived.Test.YtaagjnlkinojcaaGreatQ19
import Derived.Test.YtaagjnlkinojcaaGreatM3
import Derived.Test.YtaagjnlkinojcaaGreatJ5
import Derived.Test.YtaagjnlkinojcaaGreatK8
import Derived.Test.YtaagjnlkinojcaaGreatJ4
namespace Go.Proofs.YtaagjnlkinojcaaGreat
set_option linter.unusedSimpArgs false
set_option linter.unusedVariables false
open Go Go.Sx
set_option maxRecDepth 10000
set_option maxHeartbeats 4000000 in
theorem zbA (k:Int) (r:List Int) (t:z0h) (l:List Int) (n:Nat) (us:List Value) (hk:0≤k∧k≤30) (hr:z0T r=true) (hrl:r.length≤16000000) (hl:l.length≤14000000) (hu:us.length=5*n) (hn0:0<n) (hnl:n≤800):
  CtM Tryz.prog 82 [.agg [.ptr 0 0],lv (.int .i64 k),I64 r] [shG t false (.own 1 1 0 l.length) (.own 2 5 0 n) 0,rB l,.fr us []] (.tup []) [shG t false (.own 3 1 0 (l++z1V k r).length) (.own 4 5 0 n) 0,.gone,.gone] [rB (l++z1V k r),.fr us []]:=by
 unfold z1V
 by_cases h0:r.length=0
 ·rw[if_pos h0,List.append_nil]
  obtain rfl:=List.eq_nil_of_length_eq_zero h0
  refine z17 Tryz.func82 rfl rfl rfl rfl rfl (fun E hn hb=>?_)
  repeat refine nx ?_
  exact rtM [1,2]
 ·rw[if_neg h0]
  have hne:r≠ []:=fun e=>h0 (by rw[e]; rfl)
  obtain⟨q1,q2,q3⟩:=zk2 hr hne
  obtain⟨w1,w2⟩:=zad hr hne
  have hbo:=zh2 r hrl q1
  have hcl:=congrArg List.length q3
  rw[List.length_cons] at hcl
  have hbc:=zja (uOf r) (bOf r) (by omega) (fun x hx=>w1 x (by rw[←q3]; exact List.mem_cons_of_mem _ hx))
  rw[q2,if_pos rfl,if_pos rfl,q3] at hbc
  change Ct _ _ _ _ (.tup [z4e (uOf r) (bOf r),_]) _ _ at hbo
  have hat:=z1j k false
  have hrt:z0q (2,k,false)=true:=by unfold z0q; dsimp only; rw[decide_eq_true_iff]; omega
  have ho:=z7v t (2,k,false) false l n us hu hn0 (by omega)
  have hf:=fun(a:Option Addr) (c:Nat)=>(z64 t false l 0 0 a n c).m
  have hpu:=fun(a:Option Addr) (c:Nat)=>z5G (2,k,false) false [] [flC r] a (n+1) c (Nat.le_of_ble_eq_true rfl) (by rw[show [flC r].flatten=flC r by simp,List.length_nil]; omega)
  rw[show [flC r].flatten=flC r by simp,List.nil_append] at hpu
  have hsh:=z3z (2,k,false) t false (flC r) l n us hu hrt (by omega) (by omega)
  generalize z05 (2,k,false) (flC r)=W at*
  generalize flC r=C at*
  generalize uOf r=u at*
  generalize bOf r=B at*
  refine z17 Tryz.func82 rfl rfl rfl rfl rfl (fun E hn hb=>?_)
  repeat refine nx ?_
  refine z1w (l:= [(1,lv (.int .i64 k)),(3,.c (.ptr 67 0)),(6,.c (.ptr 70 0)),(7,lv (.int .i64 0))]) (hs:= [(0,shG t false (.own 1 1 0 l.length) (.own 2 5 0 n) 0),(1,rB l),(2,.fr us []),(67,.cells [.ptr 0 0]),(70,.cells [.lf (.v (.int .i64 u)),.lf (.ints .u8 B)])]) [0,1] 0 5 hf rfl rfl (by rw[hn]; rfl) rfl (fun _ _=>rfl) rfl rfl (fun _ _=>rfl) (fun _ _=>trivial) (fun _ _=>⟨rfl,⟨rfl,rfl⟩,(by simp[z0b]),rfl⟩) (fun _ _=>rfl) (fun _ _=>rfl) (fun _ _=>by repeat' (first | exact trivial | exact rfl | exact congrArg (fun x=>lv (.int .i64 x)) (by omega) | refine⟨?_,?_⟩)) ?_
  repeat refine nx ?_
  refine z1w (l:= [(1,lv (.int .i64 k)),(3,.c (.ptr 67 0)),(8,B8 C)]) (hs:= [(0,shG t false (.own 1 1 0 l.length) (.own 2 5 0 n) 0),(1,rB l),(2,.fr us []),(67,.cells [.ptr 0 0])]) [0,1] 0 5 hf rfl rfl (by rw[hn]; rfl) rfl (fun _ _=>rfl) rfl rfl (fun _ _=>rfl) (fun _ _=>trivial) (fun _ _=>⟨rfl,⟨rfl,rfl⟩,(by simp[z0b]),rfl⟩) (fun _ _=>rfl) (fun _ _=>rfl) (fun _ _=>by repeat' (first | exact trivial | exact rfl | exact congrArg (fun x=>lv (.int .i64 x)) (by omega) | refine⟨?_,?_⟩)) ?_
  repeat refine nxw ?_
  refine duF [98] [(4,0),(4,1),(4,2),(4,98)] ?_
  repeat (first | refine nx ?_ | refine z9i [0,1,2] hn ho ?_)
  refine z4x (fun a w h=>SR.cell_nil 0 4 900 rfl rfl rfl rfl rfl h) ?_
  repeat refine nx ?_
  refine z1w (l:= [(3,.c (.ptr 67 0))]) (hs:= [(0,shG (2,k,false) false (.own 103 1 0 C.length) (.own 98 5 0 (n+1)) 0),(1,rB l),(103,rB C),(67,.cells [.ptr 0 0]),(98,.fr us (frC t false (.own 1 1 0 l.length)))]) [0,900] 0 5 hpu rfl rfl (by rw[hn]; rfl) rfl (fun _ _=>rfl) rfl rfl (fun _ _=>rfl) (fun _ _=>trivial) (fun _ _=>⟨rfl,⟨rfl,rfl⟩,(by simp[z0b]),rfl⟩) (fun _ _=>rfl) (fun _ _=>rfl) (fun _ _=>by repeat' (first | exact trivial | exact rfl | exact congrArg (fun x=>lv (.int .i64 x)) (by omega) | refine⟨?_,?_⟩)) ?_
  repeat refine nx ?_
  refine z4U 103 0 ?_
  refine z2D [0,98,1] hsh rfl rfl (by rw[hn]; rfl) rfl rfl (by trivial) ⟨rfl,⟨rfl,rfl,rfl⟩,(by simp[z0b]),rfl⟩ ?_
  repeat refine nx ?_
  exact rtN [106,98]
theorem zle (t:z0h) (b:List Int) (n:Int) (h:z0q t=true) (hb:b.length≤16777216):z8F n (z05 t b)=z4c (2,n,t.2.2) b:=by
 have h1:=zpI [] b [] t h hb
 rw[List.nil_append,List.append_nil,List.length_nil,Nat.zero_add] at h1
 unfold z8F
 rw[h1]
 dsimp only
 rw[if_neg (by simp),if_neg (Nat.lt_irrefl _)]
set_option maxHeartbeats 8000000 in
theorem zbB (o:Option WhT) (t:z0h) (l:List Int) (n:Nat) (us:List Value) (hok:z3J o=true) (hv:∀ w,o=some w→WhV w) (hpl:(z18 o).length≤11900000) (hl:l.length≤1000000) (hu:us.length=5*n) (hn0:0<n) (hnl:n≤700):
  CtM Tryz.prog 80 [.agg [.ptr 0 0],wpV o] [shG t false (.own 1 1 0 l.length) (.own 2 5 0 n) 0,rB l,.fr us []] (.tup []) [shG t false (.own 3 1 0 (l++z18 o).length) (.own 4 5 0 n) 0,.gone,.gone] [rB (l++z18 o),.fr us []]:=by
 cases o with
 | none=>
   rw[show z18 none= [] from rfl,List.append_nil]
   refine z17 Tryz.func80 rfl rfl rfl rfl rfl (fun E hn hb=>?_)
   repeat refine nx ?_
   exact rtM [1,2]
 | some w=>
   have hv:=hv w rfl
   have hvb:=hv.b
   obtain⟨g,s⟩:=w
   have hok:z2b (g,s)=true:=hok
   unfold z2b at hok
   have hat:=z1j 0 true
   have ho:=z7v t (2,0,true) false l n us hu hn0 (by omega)
   by_cases hs:0<s.length
   ·rw[if_pos hs,Bool.and_eq_true,decide_eq_true_iff] at hok
    obtain⟨k1,k2⟩:=hok
    have hp:z18 (some (g,s))=z05 (2,0,true) (z05 (2,1,true) (s.flatMap atW)):=by
     show z05 (2,0,true) (z2o (g,s))=_
     unfold z2o
     rw[if_pos hs]
    rw[hp] at hpl ⊢
    have hss:=hv.s
    dsimp only at hss
    have hw:=z90 s hvb.a k2 (by omega)
    have hsl:=z0s (ofT 17) (s.flatMap atW)
    have himp:=zdQ 1 (z0g s) (by have:=z1x (2,0,true) (z05 (2,1,true) (s.flatMap atW)); have:=z1x (2,1,true) (s.flatMap atW); unfold z0g; omega) (zel _ _ (by decide) hv.w)
    have hia:z8F 1 (z05 (ofT 17) (s.flatMap atW))=z4c (2,1,true) (s.flatMap atW):=zle (ofT 17) (s.flatMap atW) 1 (by decide) (by omega)
    rw[show z0g s=z05 (ofT 17) (s.flatMap atW) from rfl] at himp hw
    rw[hia] at himp
    unfold z4c at himp
    rw[if_pos (by decide)] at himp
    dsimp only at himp
    have hf:=fun(a:Option Addr) (c:Nat)=>(z64 (2,0,true) false [] 0 0 a (n+1) c).m
    have hpu:=fun(a:Option Addr) (c:Nat)=>z5G (2,0,true) false [] [z05 (2,1,true) (s.flatMap atW)] a (n+1) c (Nat.le_of_ble_eq_true rfl) (by rw[show [z05 (2,1,true) (s.flatMap atW)].flatten=z05 (2,1,true) (s.flatMap atW) by simp,List.length_nil]; have:=z0s (2,1,true) (s.flatMap atW); omega)
    rw[show [z05 (2,1,true) (s.flatMap atW)].flatten=z05 (2,1,true) (s.flatMap atW) by simp,List.nil_append] at hpu
    have hsh:=z3z (2,0,true) t false (z05 (2,1,true) (s.flatMap atW)) l n us hu (by decide) (by have:=z0s (2,1,true) (s.flatMap atW); omega) (by omega)
    have hml:(s.map atL).length=s.length:=List.length_map ..
    generalize z05 (2,1,true) (s.flatMap atW)=C at*
    generalize z05 (2,0,true) C=W at*
    generalize z05 (ofT 17) (s.flatMap atW)=D at*
    refine z17 Tryz.func80 rfl rfl rfl rfl rfl (fun E hn hb=>?_)
    repeat refine nxw ?_
    refine duF [75] [(3,0),(3,1),(3,2),(3,75)] ?_
    repeat (first | refine nx ?_ | refine z9i [0,1,2] hn ho ?_)
    refine z4x (fun a w h=>SR.cell_nil 0 4 900 rfl rfl rfl rfl rfl h) ?_
    repeat refine nx ?_
    refine z1w (l:= [(2,.c (.ptr 66 0)),(4,B8 D)]) (hs:= [(0,shG (2,0,true) false (.own 900 1 0 ([]:List Int).length) (.own 75 5 0 (n+1)) 0),(1,rB l),(900,rB []),(66,.cells [.ptr 0 0]),(75,.fr us (frC t false (.own 1 1 0 l.length)))]) [0,900] 0 5 hf rfl rfl (by rw[hn]; rfl) rfl (fun _ _=>rfl) rfl rfl (fun _ _=>rfl) (fun _ _=>trivial) (fun _ _=>⟨rfl,⟨rfl,rfl⟩,(by simp[z0b]),rfl⟩) (fun _ _=>rfl) (fun _ _=>rfl) (fun _ _=>by repeat' (first | exact trivial | exact rfl | exact congrArg (fun x=>lv (.int .i64 x)) (by omega) | refine⟨?_,?_⟩)) ?_
    repeat refine nx ?_
    refine z1w (l:= [(2,.c (.ptr 66 0)),(4,B8 C)]) (hs:= [(0,shG (2,0,true) false (.own 900 1 0 ([]:List Int).length) (.own 75 5 0 (n+1)) 0),(1,rB l),(900,rB []),(66,.cells [.ptr 0 0]),(75,.fr us (frC t false (.own 1 1 0 l.length)))]) [0,900] 0 5 hf rfl rfl (by rw[hn]; rfl) rfl (fun _ _=>rfl) rfl rfl (fun _ _=>rfl) (fun _ _=>trivial) (fun _ _=>⟨rfl,⟨rfl,rfl⟩,(by simp[z0b]),rfl⟩) (fun _ _=>rfl) (fun _ _=>rfl) (fun _ _=>by repeat' (first | exact trivial | exact rfl | exact congrArg (fun x=>lv (.int .i64 x)) (by omega) | refine⟨?_,?_⟩)) ?_
    repeat refine nx ?_
    refine z1w (l:= [(2,.c (.ptr 66 0))]) (hs:= [(0,shG (2,0,true) false (.own 107 1 0 C.length) (.own 75 5 0 (n+1)) 0),(1,rB l),(107,rB C),(66,.cells [.ptr 0 0]),(75,.fr us (frC t false (.own 1 1 0 l.length)))]) [0,900] 0 5 hpu rfl rfl (by rw[hn]; rfl) rfl (fun _ _=>rfl) rfl rfl (fun _ _=>rfl) (fun _ _=>trivial) (fun _ _=>⟨rfl,⟨rfl,rfl⟩,(by simp[z0b]),rfl⟩) (fun _ _=>rfl) (fun _ _=>rfl) (fun _ _=>by repeat' (first | exact trivial | exact rfl | exact congrArg (fun x=>lv (.int .i64 x)) (by omega) | refine⟨?_,?_⟩)) ?_
    repeat refine nx ?_
    refine z4U 107 0 ?_
    refine z2D [0,75,1] hsh rfl rfl (by rw[hn]; rfl) rfl rfl (by trivial) ⟨rfl,⟨rfl,rfl,rfl⟩,(by simp[z0b]),rfl⟩ ?_
    repeat refine nx ?_
    exact rtN [116,75]
   ·rw[if_neg hs] at hok
    have hp:z18 (some (g,s))=z05 (2,0,true) (z05 (2,0,true) (g.flatMap z0l)):=by
     show z05 (2,0,true) (z2o (g,s))=_
     unfold z2o
     rw[if_neg hs]
    rw[hp] at hpl ⊢
    obtain rfl:=List.eq_nil_of_length_eq_zero (show s.length=0 by omega)
    have hok:z1g g=true:=hok
    have hgl:=hv.l
    dsimp only at hgl
    have hg0:¬ g.length=0:=by have:=(z1P hok).1; omega
    have hX:(g.flatMap z0l).length≤11900000:=by have:=z1x (2,0,true) (z05 (2,0,true) (g.flatMap z0l)); have:=z1x (2,0,true) (g.flatMap z0l); omega
    have hnm:=fun(vs:List Value) (hvs:vs.length=us.length+(frC t false (.own 1 1 0 l.length)).length)=>zbH 0 g (2,0,true) [] (n+1) vs (by decide) (.inr hok) hvb.g (by omega) (by rw[List.length_nil]; omega) (by rw[hvs,hu]; show 5*n+5=_; omega) (by omega) (by omega)
    unfold tnW at hnm
    rw[if_neg hg0] at hnm
    simp only[List.nil_append] at hnm
    have hsh:=z3z (2,0,true) t false (z05 (2,0,true) (g.flatMap z0l)) l n us hu (by decide) (by have:=z0s (2,0,true) (g.flatMap z0l); omega) (by omega)
    generalize z05 (2,0,true) (g.flatMap z0l)=C at*
    generalize z05 (2,0,true) C=W at*
    refine z17 Tryz.func80 rfl rfl rfl rfl rfl (fun E hn hb=>?_)
    repeat refine nxw ?_
    refine duF [75] [(3,0),(3,1),(3,2),(3,75)] ?_
    repeat (first | refine nxw ?_ | refine z9i [0,1,2] hn ho ?_)
    refine z7H (fun a w h=>SR.cell_nil 0 4 900 rfl rfl rfl rfl rfl h) ?_
    refine z09 (St.le_of (l:= [(1,wpV (some (g,[]))),(2,.c (.ptr 66 0))]) (h:= [(0,shG (2,0,true) false (.own 900 1 0 ([]:List Int).length) (.own 75 5 0 (n+1)) 0),(1,rB l),(900,rB []),(66,.cells [.ptr 0 0]),(75,.fr us (frC t false (.own 1 1 0 l.length)))]) (by refine⟨?_,?_⟩<;>(repeat' (first | exact trivial | exact rfl | refine⟨?_,?_⟩))<;>first | exact rfl |(simp; done) | skip)) ?_
    refine z2V 5 (by kernel_rfl) (by kernel_rfl) (by kernel_rfl) (by rw[hn]; rfl) rfl rfl ?_
    repeat (first | refine dp1 ?_ | refine dg1 ?_ | refine z1i ?_)
    refine z32 (nn:=2) (l:= [(2,.c (.ptr 66 0))]) (hs:= [(0,shG (2,0,true) false (.own 113 1 0 C.length) (.own 1113 5 0 (n+1)) 0),(1,rB l),(113,rB C),(66,.cells [.ptr 0 0]),(1113,.fr us (frC t false (.own 1 1 0 l.length)))]) [0,900,75] 75 1113 (fun vs hv=>hnm vs hv) rfl rfl (by rw[hn]; rfl) rfl (fun _=>rfl) rfl (fun _=>rfl) (fun _=>trivial) (fun vs=>⟨rfl,⟨rfl,rfl,rfl⟩,(by simp[z0b]),rfl⟩) (fun _=>rfl) (fun vs=>by repeat' (first | exact trivial | exact rfl | exact congrArg (fun x=>lv (.int .i64 x)) (by omega) | refine⟨?_,?_⟩)) ?_
    repeat refine nx ?_
    refine z4U 113 0 ?_
    refine z2D [0,1113,1] hsh rfl rfl (by rw[hn]; rfl) rfl rfl (by trivial) ⟨rfl,⟨rfl,rfl,rfl⟩,(by simp[z0b]),rfl⟩ ?_
    repeat refine nx ?_
    exact rtN [116,1113]
abbrev frD (j:Nat):List Cell:=frC z2n false (.own j 1 0 ([]:List Int).length)
set_option maxHeartbeats 16000000 in
theorem zhB (o:Option WhT) (f:Bool×Bool×Bool×Bool) (r:List Int) (h:z4I o) (hl:r.length≤16000000) (hv:∀ w,o=some w→z2b w=true→WhV w) (hpl:z3J o=true→(z18 o).length≤11000000):
  Ct Tryz.prog 31 [zdD o f r] [] (.tup [B8 (if z4M (o,f,r)=true then z7q (o,f,r) else []),lv (.int .i64 (if z4M (o,f,r)=true then 0 else 1))]) [] []:=by
 have hr:=zae o f r h hl
 by_cases hk:z4M (o,f,r)=true
 ·rw[if_pos hk,if_pos hk]
  rw[hk] at hr
  obtain⟨k1,k2⟩:=zjz hk
  have hpl:=hpl k1
  have hnw:=z8L
  have hof:=z1d 16
  have ho:=z6r z2n (ofT 16) false []
  have hvw:∀ w,o=some w→WhV w:=fun w e=>hv w e (by subst e; exact k1)
  have q0:=fun(vs:List Value) (hvs:vs.length=([]:List Value).length+(frD 1072).length)=>zbB o (ofT 16) [] 1 vs k1 hvw (by omega) (Nat.zero_le _) hvs (by decide) (by decide)
  have l1:=z7A 1 f.1
  have l2:=z7A 2 f.2.1
  have l3:=z66 3 k2
  have l4:=z7A 4 f.2.2.1
  have l5:=z7A 5 f.2.2.2
  dsimp only at k2 l3
  have q1:=fun(vs:List Value) (hvs:vs.length=([]:List Value).length+(frD 1072).length)=>z6s 1 f.1 (ofT 16) (z18 o) 1 vs (by decide) (by omega) hvs (by decide) (by decide)
  have q2:=fun(vs:List Value) (hvs:vs.length=([]:List Value).length+(frD 1072).length)=>z6s 2 f.2.1 (ofT 16) (z18 o++z2p 1 f.1) 1 vs (by decide) (by simp only[List.length_append]; omega) hvs (by decide) (by decide)
  have q3:=fun(vs:List Value) (hvs:vs.length=([]:List Value).length+(frD 1072).length)=>zbA 3 r (ofT 16) (z18 o++z2p 1 f.1++z2p 2 f.2.1) 1 vs (by decide) k2 hl (by simp only[List.length_append]; omega) hvs (by decide) (by decide)
  have q4:=fun(vs:List Value) (hvs:vs.length=([]:List Value).length+(frD 1072).length)=>z6s 4 f.2.2.1 (ofT 16) (z18 o++z2p 1 f.1++z2p 2 f.2.1++z1V 3 r) 1 vs (by decide) (by simp only[List.length_append]; omega) hvs (by decide) (by decide)
  have q5:=fun(vs:List Value) (hvs:vs.length=([]:List Value).length+(frD 1072).length)=>z6s 5 f.2.2.2 (ofT 16) (z18 o++z2p 1 f.1++z2p 2 f.2.1++z1V 3 r++z2p 4 f.2.2.1) 1 vs (by decide) (by simp only[List.length_append]; omega) hvs (by decide) (by decide)
  simp only[List.nil_append] at q0
  have e:z7q (o,f,r)=z05 (ofT 16) (z18 o++z2p 1 f.1++z2p 2 f.2.1++z1V 3 r++z2p 4 f.2.2.1++z2p 5 f.2.2.2):=by
   unfold z7q z89
   simp only[List.append_assoc]
  rw[e]
  generalize z18 o=P at*
  generalize z2p 1 f.1=T1 at*
  generalize z2p 2 f.2.1=T2 at*
  generalize z1V 3 r=T3 at*
  generalize z2p 4 f.2.2.1=T4 at*
  generalize z2p 5 f.2.2.2=T5 at*
  have hbl:(P++T1++T2++T3++T4++T5).length≤11000200:=by simp only[List.length_append]; omega
  have hsh:=z3z (ofT 16) z2n false (P++T1++T2++T3++T4++T5) [] 0 [] rfl (by decide) (by rw[List.length_nil]; omega) (by decide)
  rw[List.nil_append] at hsh
  have hwl:=z0s (ofT 16) (P++T1++T2++T3++T4++T5)
  have hby:=z6p (z05 (ofT 16) (P++T1++T2++T3++T4++T5)) [] (by omega)
  generalize z05 (ofT 16) (P++T1++T2++T3++T4++T5)=W at*
  obtain⟨f1,f2,f3,f4⟩:=f
  dsimp only at q1 q2 q4 q5
  rcases o with _ |⟨g',s'⟩
  all_goals
   refine z00 Tryz.func31 rfl rfl rfl rfl rfl (fun E hn hb=>?_)
   repeat refine nxw ?_
   refine duF [77] [(3,72),(3,1072),(3,77)] ?_
   repeat (first | refine nx ?_ | refine z9i [72,1072] hn ho ?_)
   refine z4x (fun a w h=>SR.cell_nil 72 4 900 rfl rfl rfl rfl rfl h) ?_
   repeat refine nx ?_
   refine z32 (nn:=2) (l:= [(1,.c (.ptr 65 0)),(4,.c (.ptr 68 0))]) (hs:= [(72,shG (ofT 16) false (.own 81 1 0 (P).length) (.own 1081 5 0 1) 0),(81,rB (P)),(1081,.fr [] (frD 1072)),(1072,rB []),(65,.cells [.lf _,.lf (.v (.bool f1)),.lf (.v (.bool f2)),.lf (.v (.bool f3)),.lf (.v (.bool f4)),.lf (.ints .i64 r)]),(68,.cells [.ptr 72 0])]) [72,900,77] 77 1081 (fun vs hv=>q0 vs hv) rfl rfl (by rw[hn]; rfl) rfl (fun _=>rfl) rfl (fun _=>rfl) (fun _=>trivial) (fun vs=>⟨rfl,⟨rfl,rfl,rfl⟩,(by simp[z0b]),rfl⟩) (fun _=>rfl) (fun vs=>by repeat' (first | exact trivial | exact rfl | exact congrArg (fun x=>lv (.int .i64 x)) (by omega) | refine⟨?_,?_⟩)) ?_
   repeat refine nx ?_
   refine z32 (nn:=2) (l:= [(1,.c (.ptr 65 0)),(4,.c (.ptr 68 0))]) (hs:= [(72,shG (ofT 16) false (.own 85 1 0 (P++T1).length) (.own 1085 5 0 1) 0),(85,rB (P++T1)),(1085,.fr [] (frD 1072)),(1072,rB []),(65,.cells [.lf _,.lf (.v (.bool f1)),.lf (.v (.bool f2)),.lf (.v (.bool f3)),.lf (.v (.bool f4)),.lf (.ints .i64 r)]),(68,.cells [.ptr 72 0])]) [72,81,1081] 1081 1085 (fun vs hv=>q1 vs hv) rfl rfl (by rw[hn]; rfl) rfl (fun _=>rfl) rfl (fun _=>rfl) (fun _=>trivial) (fun vs=>⟨rfl,⟨rfl,rfl,rfl⟩,(by simp[z0b]),rfl⟩) (fun _=>rfl) (fun vs=>by repeat' (first | exact trivial | exact rfl | exact congrArg (fun x=>lv (.int .i64 x)) (by omega) | refine⟨?_,?_⟩)) ?_
   repeat refine nx ?_
   refine z32 (nn:=2) (l:= [(1,.c (.ptr 65 0)),(4,.c (.ptr 68 0))]) (hs:= [(72,shG (ofT 16) false (.own 89 1 0 (P++T1++T2).length) (.own 1089 5 0 1) 0),(89,rB (P++T1++T2)),(1089,.fr [] (frD 1072)),(1072,rB []),(65,.cells [.lf _,.lf (.v (.bool f1)),.lf (.v (.bool f2)),.lf (.v (.bool f3)),.lf (.v (.bool f4)),.lf (.ints .i64 r)]),(68,.cells [.ptr 72 0])]) [72,85,1085] 1085 1089 (fun vs hv=>q2 vs hv) rfl rfl (by rw[hn]; rfl) rfl (fun _=>rfl) rfl (fun _=>rfl) (fun _=>trivial) (fun vs=>⟨rfl,⟨rfl,rfl,rfl⟩,(by simp[z0b]),rfl⟩) (fun _=>rfl) (fun vs=>by repeat' (first | exact trivial | exact rfl | exact congrArg (fun x=>lv (.int .i64 x)) (by omega) | refine⟨?_,?_⟩)) ?_
   repeat refine nx ?_
   refine z32 (nn:=2) (l:= [(1,.c (.ptr 65 0)),(4,.c (.ptr 68 0))]) (hs:= [(72,shG (ofT 16) false (.own 93 1 0 (P++T1++T2++T3).length) (.own 1093 5 0 1) 0),(93,rB (P++T1++T2++T3)),(1093,.fr [] (frD 1072)),(1072,rB []),(65,.cells [.lf _,.lf (.v (.bool f1)),.lf (.v (.bool f2)),.lf (.v (.bool f3)),.lf (.v (.bool f4)),.lf (.ints .i64 r)]),(68,.cells [.ptr 72 0])]) [72,89,1089] 1089 1093 (fun vs hv=>q3 vs hv) rfl rfl (by rw[hn]; rfl) rfl (fun _=>rfl) rfl (fun _=>rfl) (fun _=>trivial) (fun vs=>⟨rfl,⟨rfl,rfl,rfl⟩,(by simp[z0b]),rfl⟩) (fun _=>rfl) (fun vs=>by repeat' (first | exact trivial | exact rfl | exact congrArg (fun x=>lv (.int .i64 x)) (by omega) | refine⟨?_,?_⟩)) ?_
   repeat refine nx ?_
   refine z32 (nn:=2) (l:= [(1,.c (.ptr 65 0)),(4,.c (.ptr 68 0))]) (hs:= [(72,shG (ofT 16) false (.own 97 1 0 (P++T1++T2++T3++T4).length) (.own 1097 5 0 1) 0),(97,rB (P++T1++T2++T3++T4)),(1097,.fr [] (frD 1072)),(1072,rB []),(65,.cells [.lf _,.lf (.v (.bool f1)),.lf (.v (.bool f2)),.lf (.v (.bool f3)),.lf (.v (.bool f4)),.lf (.ints .i64 r)]),(68,.cells [.ptr 72 0])]) [72,93,1093] 1093 1097 (fun vs hv=>q4 vs hv) rfl rfl (by rw[hn]; rfl) rfl (fun _=>rfl) rfl (fun _=>rfl) (fun _=>trivial) (fun vs=>⟨rfl,⟨rfl,rfl,rfl⟩,(by simp[z0b]),rfl⟩) (fun _=>rfl) (fun vs=>by repeat' (first | exact trivial | exact rfl | exact congrArg (fun x=>lv (.int .i64 x)) (by omega) | refine⟨?_,?_⟩)) ?_
   repeat refine nx ?_
   refine z32 (nn:=2) (l:= [(1,.c (.ptr 65 0)),(4,.c (.ptr 68 0))]) (hs:= [(72,shG (ofT 16) false (.own 101 1 0 (P++T1++T2++T3++T4++T5).length) (.own 1101 5 0 1) 0),(101,rB (P++T1++T2++T3++T4++T5)),(1101,.fr [] (frD 1072)),(1072,rB []),(65,.cells [.lf _,.lf (.v (.bool f1)),.lf (.v (.bool f2)),.lf (.v (.bool f3)),.lf (.v (.bool f4)),.lf (.ints .i64 r)]),(68,.cells [.ptr 72 0])]) [72,97,1097] 1097 1101 (fun vs hv=>q5 vs hv) rfl rfl (by rw[hn]; rfl) rfl (fun _=>rfl) rfl (fun _=>rfl) (fun _=>trivial) (fun vs=>⟨rfl,⟨rfl,rfl,rfl⟩,(by simp[z0b]),rfl⟩) (fun _=>rfl) (fun vs=>by repeat' (first | exact trivial | exact rfl | exact congrArg (fun x=>lv (.int .i64 x)) (by omega) | refine⟨?_,?_⟩)) ?_
   repeat refine nx ?_
   refine z4U 101 72 ?_
   refine z2D [72,1101,1072] hsh rfl rfl (by rw[hn]; rfl) rfl rfl (by trivial) ⟨rfl,⟨rfl,rfl,rfl⟩,(by simp[z0b]),rfl⟩ ?_
   repeat refine nx ?_
   refine z4U 104 72 ?_
   repeat refine nx ?_
   exact rt1 []
 ·rw[if_neg hk,if_neg hk]
  rw[Bool.not_eq_true] at hk
  rw[hk] at hr
  obtain⟨f1,f2,f3,f4⟩:=f
  rcases o with _ |⟨g',s'⟩
  all_goals
   refine z00 Tryz.func31 rfl rfl rfl rfl rfl (fun E hn hb=>?_)
   repeat refine nx ?_
   exact rtU []
end Go.Proofs.YtaagjnlkinojcaaGreat
namespace Go.Proofs.YtaagjnlkinojcaaGreat
set_option linter.unusedSimpArgs false
set_option linter.unusedVariables false
open Go.Sx
set_option maxRecDepth 10000
structure WhS (w:WhT):Prop where
 v:WhV w
 h:WhH w
 l:(z18 (some w)).length≤732100
 w:WfB (z18 (some w))
theorem zrQ {w:WhT} (h:WhI w) (hok:z2b (whU w)=true):WhS (whU w):=by
 obtain⟨b1,b2⟩:=zkk h
 obtain⟨g1,g2⟩:=zdg h.g
 obtain⟨s1,s2⟩:=zfV h.s
 have hp:z18 (some (whU w))=z05 (2,0,true) (z2o (whU w)):=rfl
 unfold z2b at hok
 by_cases h0:0<(stT w.2).length
 ·rw[if_pos h0,Bool.and_eq_true,decide_eq_true_iff] at hok
  obtain⟨k1,k2⟩:=hok
  have l1:(z0g (stT w.2)).length≤7300:=zdr k2 fun a ha=>(s2 a ha).2
  have l2:=zbC (stT w.2)
  have hw:=z8J atW (stT w.2) fun a ha=>zhz ((z3u k2).2.2.1 a ha) (s2 a ha).1.w
  have hg:z2L w.1= []:=List.eq_nil_of_length_eq_zero k1
  have hi:z2o (whU w)=z05 (2,1,true) ((stT w.2).flatMap atW):=by unfold z2o; rw[if_pos h0]
  have q1:=z0s (2,1,true) ((stT w.2).flatMap atW)
  have q2:=z0s (2,0,true) (z05 (2,1,true) ((stT w.2).flatMap atW))
  refine⟨⟨b1,by dsimp only; rw[hg]; exact Nat.zero_le _,by dsimp only; omega,hw⟩,⟨fun g hgm=>by dsimp only at hgm; rw[hg] at hgm; exact absurd hgm List.not_mem_nil,by dsimp only; rw[hg]; exact Nat.zero_le _,fun a ha=>⟨(s2 a ha).1.w,Nat.le_trans (s2 a ha).2 (by decide)⟩⟩,?_,?_⟩
  ·rw[hp,hi]; omega
  ·rw[hp,hi]
   exact z1I _ _ (by decide) (z1I _ _ (by decide) hw)
 ·rw[if_neg h0] at hok
  have hk:=(z1P hok).2.2
  have l1:((z2L w.1).flatMap z0l).length≤732000:=z9p hk g1 fun g hg=>(g2 g hg).2
  have hw:=(b2.l hok).2
  have hs:stT w.2= []:=List.eq_nil_of_length_eq_zero (by omega)
  have hi:z2o (whU w)=z05 (2,0,true) ((z2L w.1).flatMap z0l):=by unfold z2o; rw[if_neg h0]
  have q1:=z0s (2,0,true) ((z2L w.1).flatMap z0l)
  have q2:=z0s (2,0,true) (z05 (2,0,true) ((z2L w.1).flatMap z0l))
  refine⟨⟨b1,by dsimp only; omega,by dsimp only; rw[hs]; exact Nat.zero_le _,by dsimp only; rw[hs]; exact fun x hx=>absurd hx List.not_mem_nil⟩,⟨fun g hg=>b2.h hok g hg,by dsimp only; omega,fun a ha=>by dsimp only at ha; rw[hs] at ha; exact absurd ha List.not_mem_nil⟩,?_,?_⟩
  ·rw[hp,hi]; omega
  ·rw[hp,hi]
   exact z1I _ _ (by decide) (z1I _ _ (by decide) hw)
def zpW:Option WhT→Prop
 | none=>True
 | some w=>z2b w=true→WhS w
theorem zpX (b:Bool) {w:WhT} (h:WhI w):zpW (zg0 b w)∧z4I (zg0 b w):=by
 cases b
 ·exact⟨trivial,trivial⟩
 ·exact⟨fun hok=>zrQ h hok,(zkk h).1⟩
theorem zhC {o:Option WhT} (h:zpW o) (hok:z3J o=true):(z18 o).length≤732100∧WfB (z18 o):=by
 cases o with
 | none=>exact⟨Nat.zero_le _,fun x hx=>absurd hx List.not_mem_nil⟩
 | some w=>exact⟨(h hok).l,(h hok).w⟩
theorem zlf (k:Int) {l:List Int} (h:z0T l=true) (hk:0≤k∧k≤30):WfB (z1V k l):=by
 unfold z1V
 by_cases h0:l.length=0
 ·rw[if_pos h0]; exact fun x hx=>absurd hx List.not_mem_nil
 ·rw[if_neg h0]; exact z1I _ _ (zdu hk) (zad h (fun e=>h0 (by rw[e]; rfl))).1
theorem zpY {l:List Int} (hw:WfB l) (hl:l.length≤11760000) (p:Nat):z4I (z3x l p).1.1∧(z3x l p).1.2.2.length≤32:=by
 have hm:=z0H l p (ofT 16)
 have h0:z4I sc0.1∧sc0.2.2.length≤32:=⟨trivial,Nat.zero_le _⟩
 unfold z3x
 dsimp only
 generalize z0r l p (ofT 16)=X at*
 obtain⟨y,q,e⟩:=X
 dsimp only at*
 split
 ·split
  ·have hb:=zi5 (x:=y) (fun z hz=>hw z (hm.2 z hz)) (by omega)
   rw[zeU]
   split
   ·split
    ·exact h0
    ·split
     ·exact hb
     ·exact h0
   ·exact h0
  ·exact h0
 ·exact h0
end Go.Proofs.YtaagjnlkinojcaaGreat

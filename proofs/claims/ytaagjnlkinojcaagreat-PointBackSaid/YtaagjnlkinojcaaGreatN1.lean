/-
  Chapter 14, plain laws: parts and steps of names, which are right, how they are read; what is read is written so. No condition.
-/
import Derived.Test.YtaagjnlkinojcaaGreatW27
import Derived.Test.YtaagjnlkinojcaaGreatM3
import Derived.Test.YtaagjnlkinojcaaGreatSxE
import Derived.Test.YtaagjnlkinojcaaGreatSxQ
import Derived.Test.YtaagjnlkinojcaaGreatSxF
import Derived.Test.YtaagjnlkinojcaaGreatA19
namespace Go.Proofs.YtaagjnlkinojcaaGreat
set_option linter.unusedSimpArgs false
set_option linter.unusedVariables false
open Go Go.Sx
set_option maxRecDepth 10000
abbrev nlC:Cell:= .lf (.v (.slice none 0 0))
abbrev shG (t:z0h) (s:Bool) (b a:Cell) (e:Int):Blk:= .cells [z37 t.1,z37 t.2.1,.lf (.v (.bool t.2.2)),.lf (.v (.bool s)),b,a,z37 e]
abbrev frC (t:z0h) (s:Bool) (b:Cell):List Cell:= [z37 t.1,z37 t.2.1,.lf (.v (.bool t.2.2)),.lf (.v (.bool s)),b]
abbrev fgA (t:z0h) (s:Bool) (b:Cell):Av:= .agg (frC t s b)
abbrev rB (l:List Int):Blk:= .row (.ints .u8 l)
theorem z8L:Ct Tryz.prog 78 [] [] (.c (.ptr 0 0)) [] [shG z2n false (.own 1 1 0 ([]:List Int).length) nlC 0,rB []]:=by
 refine z00 Tryz.func78 rfl rfl rfl rfl rfl (fun E hn hb=>?_)
 repeat refine nx ?_
 refine z41 (fun a w h=>SR.cell_nil 66 4 900 rfl rfl rfl rfl rfl h) ?_
 exact rt1 [66,900]
theorem z8M (t:z0h) (s:Bool) (l:List Int) (e:Int) (a:Option Addr) (n c:Nat):Ct Tryz.prog 146 [.c (.ptr 0 0)] [shG t s (.own 1 1 0 l.length) (.lf (.v (.slice a n c))) e,rB l] (lv (.bool (bif false then true else e !=0))) [shG t s (.own 1 1 0 l.length) (.lf (.v (.slice a n c))) e,rB l] []:=by
 refine z00 Tryz.func146 rfl rfl rfl rfl rfl (fun E hn hb=>?_)
 repeat refine nx ?_
 exact rt1 []
theorem zjZ (t:z0h) (s:Bool) (l:List Int) (e:Int) (a:Option Addr) (n c:Nat):Ct Tryz.prog 146 [.c (.ptr 0 0)] [shG t s (.lf (.ints .u8 l)) (.lf (.v (.slice a n c))) e] (lv (.bool (bif false then true else e !=0))) [shG t s (.lf (.ints .u8 l)) (.lf (.v (.slice a n c))) e] []:=by
 refine z00 Tryz.func146 rfl rfl rfl rfl rfl (fun E hn hb=>?_)
 repeat refine nx ?_
 exact rt1 []
theorem zaJ (t:z0h) (s:Bool) (l x:List Int) (e:Int) (a:Option Addr) (n c:Nat) (hl:l.length+x.length≤16000000):
  CtM Tryz.prog 148 [.c (.ptr 0 0),B8 x] [shG t s (.own 1 1 0 l.length) (.lf (.v (.slice a n c))) e,rB l] (.tup []) [shG t s (.own 2 1 0 (l++x).length) (.lf (.v (.slice a n c))) e,.gone] [rB (l++x)]:=by
 have e0:l.take (0+l.length)=l:=by simp
 refine z17 Tryz.func148 rfl rfl rfl rfl rfl (fun E hn hb=>?_)
 repeat refine nx ?_
 refine z6a 900 rfl rfl rfl rfl rfl (by rw[hn]; rfl) (z0n Tryz.underlying28 rfl rfl) rfl rfl rfl rfl ?_ (by simp) ⟨by omega,by decide⟩ ?_ ?_
 ·trivial
 ·rw[e0]
  repeat refine nx ?_
  rw[←List.length_append]
  exact rtN [1]
 ·rw[e0,List.drop_zero]
  repeat refine nx ?_
  rw[←List.length_append]
  exact rtN [900]
theorem z64 (t:z0h) (s:Bool) (l:List Int) (e f:Int) (a:Option Addr) (n c:Nat):Ct Tryz.prog 103 [.c (.ptr 0 0),lv (.int .i64 f)] [shG t s (.own 1 1 0 l.length) (.lf (.v (.slice a n c))) e,rB l] (.tup []) [shG t s (.own 1 1 0 l.length) (.lf (.v (.slice a n c))) (if e=0 then f else e),rB l] []:=by
 have h:=z8M t s l e a n c
 by_cases he:e=0
 ·subst he
  rw[if_pos rfl]
  refine z00 Tryz.func103 rfl rfl rfl rfl rfl (fun E hn hb=>?_)
  repeat refine nx ?_
  exact rt1 []
 ·rw[if_neg he]
  refine z00 Tryz.func103 rfl rfl rfl rfl rfl (fun E hn hb=>?_)
  repeat refine nx ?_
  exact rt1 []
theorem zhU (t t':z0h) (s s':Bool) (l:List Int):CtM Tryz.prog 141 [.c (.ptr 0 0),fgA t' s' nlC] [shG t s (.own 1 1 0 l.length) nlC 0,rB l] (.tup []) [shG t' s' nlC (.own 2 5 0 1) 0,rB l] [.fr [] (frC t s (.own 1 1 0 l.length))]:=by
 have h:=z8M t s l 0 none 0 0
 refine z17 Tryz.func141 rfl rfl rfl rfl rfl (fun E hn hb=>?_)
 repeat refine nxw ?_
 refine duF [79,80] [(9,79),(10,80),(13,0)] ?_
 repeat (first | refine zpN ?_ | refine zxK ?_ | refine nx ?_)
 exact rtN [80]
theorem zk0 (t t':z0h) (s s':Bool) (l:List Int) (n:Nat) (us:List Value) (hu:us.length=5*n) (hn0:0<n) (hnl:n≤900):CtM Tryz.prog 141 [.c (.ptr 0 0),fgA t' s' nlC] [shG t s (.own 1 1 0 l.length) (.own 2 5 0 n) 0,rB l,.fr us []] (.tup [])
  [shG t' s' nlC (.own 3 5 0 (n+1)) 0,rB l,.gone] [.fr us (frC t s (.own 1 1 0 l.length))]:=by
 have h:=fun(a:Option Addr) (c:Nat)=>(z8M t s l 0 a n c).m
 refine z17 Tryz.func141 rfl rfl rfl rfl rfl (fun E hn hb=>?_)
 repeat refine nxw ?_
 refine z1w (l:= [(0,.c (.ptr 0 0)),(3,.c (.ptr 67 0)),(5,lv (.bool false))]) (hs:= [(0,shG t s (.own 1 1 0 l.length) (.own 2 5 0 n) 0),(1,rB l),(2,.fr us []),(67,.cells (frC t' s' nlC))]) [0,1] 0 5 h rfl rfl (by rw[hn]; rfl) rfl (fun _ _=>rfl) rfl rfl (fun _ _=>rfl) (fun _ _=>trivial) (fun _ _=>⟨rfl,⟨rfl,rfl⟩,(by simp[z0b]),rfl⟩) (fun _ _=>rfl) (fun _ _=>rfl) (fun _ _=>by repeat' (first | exact trivial | exact rfl | exact congrArg (fun x=>lv (.int .i64 x)) (by omega) | refine⟨?_,?_⟩)) ?_
 repeat refine nxw ?_
 refine duF [79,80] [(9,79),(10,80),(10,2),(13,0)] ?_
 repeat (first | refine zpN ?_ | refine zxJ ?_ | refine nx ?_)
 exact rtN [80]
theorem z6r (t t':z0h) (s:Bool) (l:List Int):CtM Tryz.prog 79 [.c (.ptr 0 0),z2c t'] [shG t s (.own 1 1 0 l.length) nlC 0,rB l] (.tup []) [shG t' false nlC (.own 2 5 0 1) 0,rB l] [.fr [] (frC t s (.own 1 1 0 l.length))]:=by
 have h:=zhU t t' s false l
 refine z17 Tryz.func79 rfl rfl rfl rfl rfl (fun E hn hb=>?_)
 repeat refine nx ?_
 refine cm1 ?_
 repeat refine nx ?_
 exact rtN [71]
theorem z7v (t t':z0h) (s:Bool) (l:List Int) (n:Nat) (us:List Value) (hu:us.length=5*n) (hn0:0<n) (hnl:n≤900):CtM Tryz.prog 79 [.c (.ptr 0 0),z2c t'] [shG t s (.own 1 1 0 l.length) (.own 2 5 0 n) 0,rB l,.fr us []] (.tup [])
  [shG t' false nlC (.own 3 5 0 (n+1)) 0,rB l,.gone] [.fr us (frC t s (.own 1 1 0 l.length))]:=by
 have h:=zk0 t t' s false l n us hu hn0 hnl
 refine z17 Tryz.func79 rfl rfl rfl rfl rfl (fun E hn hb=>?_)
 repeat refine nx ?_
 refine cm1 ?_
 repeat refine nx ?_
 exact rtN [71]
theorem z5G (t:z0h) (s:Bool) (l:List Int) (xs:List (List Int)) (a:Option Addr) (n c:Nat) (hx:xs.length≤16000000) (hl:l.length+xs.flatten.length≤16000000):
  CtM Tryz.prog 104 [.c (.ptr 0 0),z2M xs] [shG t s (.own 1 1 0 l.length) (.lf (.v (.slice a n c))) 0,rB l] (.tup []) [shG t s (.own 2 1 0 (l++xs.flatten).length) (.lf (.v (.slice a n c))) 0,.gone] [rB (l++xs.flatten)]:=by
 have h:=z8M t s l 0 a n c
 have hlen:(z2a xs).length=xs.length:=by simp[z2a]
 refine z17 Tryz.func104 rfl rfl rfl rfl rfl (fun E hn hb=>?_)
 repeat refine nx ?_
 refine z09 (St.le_of (l:= [(0,.c (.ptr 0 0)),(8,z2M xs),(9,lv (.int .i64 ((z2a xs).length:Int))),(10,lv (.int .i64 0))]) (h:= [(0,shG t s (.own 1 1 0 l.length) (.lf (.v (.slice a n c))) 0),(1,rB l)]) (by refine⟨?_,?_⟩<;>(repeat' (first | exact trivial | exact rfl | refine⟨?_,?_⟩))<;>first | exact rfl |(simp; done) | skip)) ?_
 refine z0k (ι:=Option {j:Nat//1≤j∧j≤xs.length}) (fun i=>match i with
  | none=>St.of [(0,.c (.ptr 0 0)),(8,z2M xs),(9,lv (.int .i64 ((z2a xs).length:Int))),(10,lv (.int .i64 0))] [(0,shG t s (.own 1 1 0 l.length) (.lf (.v (.slice a n c))) 0),(1,rB l)]
  | some j=>St.of [(0,.c (.ptr 0 0)),(8,z2M xs),(9,lv (.int .i64 ((z2a xs).length:Int))),(10,lv (.int .i64 (j.1:Int)))] [(0,shG t s (.own 82 1 0 (l++(xs.take j.1).flatten).length) (.lf (.v (.slice a n c))) 0),(82,rB (l++(xs.take j.1).flatten))]) (fun i=>match i with | none=>xs.length+1 | some j=>xs.length -j.1) (fun i=>?_) none
 cases i with
 | none=>
   dsimp only
   by_cases h0:0<xs.length
   ·have hf:=zbf xs 0 h0
    have ha:=zaJ t s l (xs.getD 0 []) 0 a n c (by have:=congrArg List.length hf.1; rw[List.length_append] at this; have e:(xs.take 0).flatten.length=0:=rfl; omega)
    have e1:l++xs.getD 0 []=l++(xs.take 1).flatten:=by rw[hf.1]; rfl
    rw[e1] at ha
    repeat refine nx ?_
    refine cm1 ?_
    repeat refine nx ?_
    refine z08 (some ⟨1,by omega,by omega⟩) (by dsimp only; omega) (St.le_of ⟨⟨rfl,rfl,rfl,rfl⟩,⟨rfl,rfl⟩⟩)
   ·have e0:xs= []:=List.length_eq_zero_iff.1 (by omega)
    subst e0
    rw[show([]:List (List Int)).flatten= [] from rfl,List.append_nil]
    repeat refine nx ?_
    exact rtM [1]
 | some j=>
   obtain⟨j,hj1,hj2⟩:=j
   dsimp only
   by_cases hj:j<xs.length
   ·have hf:=zbf xs j hj
    have ha:=zaJ t s (l++(xs.take j).flatten) (xs.getD j []) 0 a n c (by have:=congrArg List.length hf.1; rw[List.length_append] at this ⊢; omega)
    have e1:(l++(xs.take j).flatten)++xs.getD j []=l++(xs.take (j+1)).flatten:=by rw[hf.1,List.append_assoc]
    rw[e1] at ha
    refine z7H (fun a w h=>SR.mv 82 901 rfl rfl rfl rfl rfl h) ?_
    repeat refine nx ?_
    refine cm1 ?_
    repeat refine nx ?_
    refine z08 (some ⟨j+1,by omega,by omega⟩) (by dsimp only; omega) (St.le_of ⟨⟨rfl,rfl,rfl,rfl⟩,⟨rfl,rfl⟩⟩)
   ·obtain rfl:j=xs.length:=by omega
    rw[List.take_length]
    repeat refine nx ?_
    exact rtM [82]
theorem zhV (t:z0h) (l:List Int) (a:Leaf) (hl:l.length≤16000000):Ct Tryz.prog 147 [.c (.ptr 0 0)] [shG t false (.lf (.ints .u8 l)) (.lf a) 0] (.tup [B8 (z4c t l).1,lv (.int .i64 (z4c t l).2)]) [shG t false (.lf (.ints .u8 l)) (.lf a) 0] []:=by
 have h:=z7i t [l] (by simp) (by simp; omega)
 rw[show [l].flatten=l by simp] at h
 refine z00 Tryz.func147 rfl rfl rfl rfl rfl (fun E hn hb=>?_)
 repeat refine nx ?_
 exact rt1 []
theorem z3z (t t':z0h) (s':Bool) (l l':List Int) (n:Nat) (us:List Value) (hu:us.length=5*n) (h:z0q t=true) (hl:l.length+l'.length≤14400000) (hnl:n≤900):
  CtM Tryz.prog 83 [.c (.ptr 0 0)] [shG t false (.lf (.ints .u8 l)) (.own 1 5 0 (n+1)) 0,.fr us (frC t' s' (.own 2 1 0 l'.length)),rB l'] (.tup [])
   [shG t' s' (.own 3 1 0 (l'++z05 t l).length) (.own 1 5 0 n) 0,.fr us [],.gone] [rB (l'++z05 t l)]:=by
 have h0:=fun(a:Option Addr) (c:Nat)=>(zjZ t false l 0 a (n+1) c).m
 have h1:=fun(a:Option Addr) (c:Nat)=>(zhV t l (.v (.slice a (n+1) c)) (by omega)).m
 have hw:=z0s t l
 unfold z4c at h1
 rw[if_pos h] at h1
 have h2:=fun(a:Option Addr) (c:Nat)=>zaJ t' s' l' (z05 t l) 0 a n c (by omega)
 generalize z05 t l=W at*
 dsimp only at h1
 refine z17 Tryz.func83 rfl rfl rfl rfl rfl (fun E hn hb=>?_)
 repeat refine nx ?_
 refine z1w (l:= [(0,.c (.ptr 0 0)),(6,lv (.bool false))]) (hs:= [(0,shG t false (.lf (.ints .u8 l)) (.own 1 5 0 (n+1)) 0),(1,.fr us (frC t' s' (.own 2 1 0 l'.length))),(2,rB l')]) [0] 0 5 h0 rfl rfl (by rw[hn]; rfl) rfl (fun _ _=>rfl) rfl rfl (fun _ _=>rfl) (fun _ _=>trivial) (fun _ _=>⟨rfl,rfl,(by simp[z0b]),rfl⟩) (fun _ _=>rfl) (fun _ _=>rfl) (fun _ _=>by repeat' (first | exact trivial | exact rfl | exact congrArg (fun x=>lv (.int .i64 x)) (by omega) | refine⟨?_,?_⟩)) ?_
 repeat refine nx ?_
 refine z1w (l:= [(0,.c (.ptr 0 0)),(2,lv (.int .i64 (n:Int))),(21,.tup [B8 W,lv (.int .i64 0)])]) (hs:= [(0,shG t false (.lf (.ints .u8 l)) (.own 1 5 0 (n+1)) 0),(1,.fr us (frC t' s' (.own 2 1 0 l'.length))),(2,rB l')]) [0] 0 5 h1 rfl rfl (by rw[hn]; rfl) rfl (fun _ _=>rfl) rfl rfl (fun _ _=>rfl) (fun _ _=>trivial) (fun _ _=>⟨rfl,rfl,(by simp[z0b]),rfl⟩) (fun _ _=>rfl) (fun _ _=>rfl) (fun _ _=>by repeat' (first | exact trivial | exact rfl | exact congrArg (fun x=>lv (.int .i64 x)) (by omega) | refine⟨?_,?_⟩)) ?_
 repeat refine nx ?_
 refine zpM (us:=us) (cs:=frC t' s' (.own 2 1 0 l'.length)) (cs':=frC t' s' (.own 2 1 0 l'.length)) rfl rfl (by rw[hn]; rfl) rfl rfl (by simp; omega) rfl rfl (Nat.le_of_ble_eq_true rfl) rfl ?_
 repeat refine nx ?_
 refine z4x (fun a w h=>SR.cut_fr 1 rfl h) ?_
 refine z1w (l:= []) (hs:= [(0,shG t' s' (.own 116 1 0 (l'++W).length) (.own 1 5 0 n) 0),(1,.fr us []),(116,rB (l'++W))]) [0,2] 0 5 h2 rfl rfl (by rw[hn]; rfl) rfl (fun _ _=>rfl) rfl rfl (fun _ _=>rfl) (fun _ _=>trivial) (fun _ _=>⟨rfl,⟨rfl,rfl⟩,(by simp[z0b]),rfl⟩) (fun _ _=>rfl) (fun _ _=>rfl) (fun _ _=>by repeat' (first | exact trivial | exact rfl | exact congrArg (fun x=>lv (.int .i64 x)) (by omega) | refine⟨?_,?_⟩)) ?_
 repeat refine nx ?_
 exact rtN [116]
end Go.Proofs.YtaagjnlkinojcaaGreat
namespace Go.Sx
open Go
set_option linter.unusedVariables false
theorem SRb.freezeG {E:Env} {β:Nat→Option Nat} {F:Nat→Prop} {σ:St} {a:Act} {w:World} (h:SRb E β F σ a w) {j:Nat} (hgone:σ.hp j≠ .gone) (hjn:E.nb≤j) (hl:∀ i,i<E.nb→σ.hp i≠ .gone):
  SRb E (fun i=>if i=j then none else β i) (fun b=>F b∨β j=some b) (σ.kill j) a w:=by
 let β':Nat→Option Nat:=fun i=>if i=j then none else β i
 let F':Nat→Prop:=fun b=>F b∨β j=some b
 have hβ:∀ i,i≠j→β' i=β i:=fun i hi=>if_neg hi
 have hk:=h.kill j hjn
 have hF:∀ b,F b→F' b:=fun b hb=> .inl hb
 -- the state with the block gone, in the greater F
 have hk2:SRb E β' F' (σ.kill j) a w:=by
  refine⟨fun i=>(hk.tm i).mono (fun _ _ h=>h) (fun b hb=>⟨hF b hb,rfl⟩) (fun _ _ h=>h),hk.sz,hk.df,fun i=>?_,hk.inj,fun i g hi e=>?_,hk.lt,fun b hb=>?_,hk.keep,hk.bb,hk.nbl⟩
  ·have:=hk.hp i
   revert this
   cases (σ.kill j).hp i with
   | gone=>exact fun _=>trivial
   | map es=>
     rintro⟨g,ms,ck,e1,e2,e3,e4⟩
     exact⟨g,ms,ck,e1,e2,e3,fun i k x hx=>let ⟨e,q1,q2,q3⟩:=e4 i k x hx; ⟨e,q1,q2,q3.mono fun b hb=>⟨hF b hb,rfl⟩⟩⟩
   | raw g ob=>
     exact fun h=>h
   | mapS g ms ck es=>
     rintro⟨e1,e2,e3,e4⟩
     exact⟨e1,e2,e3,fun i k x hx=>let ⟨e,q1,q2,q3⟩:=e4 i k x hx; ⟨e,q1,q2,q3.mono fun b hb=>⟨hF b hb,rfl⟩⟩⟩
   | cells cs=>
     rintro⟨g,cur,e1,e2,e3,e4⟩
     exact⟨g,cur,e1,e2,e3,fun i x v hx hv=>(e4 i x v hx hv).mono (fun _ _ h=>h) (fun b hb=>⟨hF b hb,rfl⟩) (fun _ _ h=>h)⟩
   | fr vs cs=>
     rintro⟨g,cur,e1,e2,e3,e4⟩
     exact⟨g,cur,e1,e2,e3,fun i x v hx hv=>(e4 i x v hx hv).mono (fun _ _ h=>h) (fun b hb=>⟨hF b hb,rfl⟩) (fun _ _ h=>h)⟩
   | row d=>
     cases d with
     | ints k l=>exact fun h=>h
     | recs sz l=>
       rintro⟨e1,e2⟩
       refine⟨e1,?_⟩
       rcases e2 with e2 |⟨g,cur,e2,e3,e4⟩
       ·exact .inl e2
       ·refine .inr ⟨g,cur,e2,e3,fun i r k x hi hk=>?_⟩
        obtain⟨u,hu,hl⟩:=e4 i r k x hi hk
        exact⟨u,hu,hl.mono fun b hb=>⟨hF b hb,rfl⟩⟩
     | v=>exact fun h=>h
     | obj=>exact fun h=>h
  ·obtain⟨a1,a2,a3⟩:=hk.own i g hi e
   refine⟨a1,a2,?_⟩
   rintro(hf | hf)
   ·exact a3 hf
   ·have e:(if i=j then none else β i)=some g:=e
    by_cases hij:i=j
    ·simp[hij] at e
    ·simp only[hij,if_false] at e
     have hi':σ.hp i≠ .gone:=by
      simp only[St.kill,hij,decide_false] at hi
      exact Blk.kill_ne hi
     exact hij (h.inj i j g hi' hgone e hf)
  ·rcases hb with hb | hb
   ·exact h.fr b hb
   ·obtain⟨a1,a2,a3⟩:=h.own j b hgone hb
    refine⟨a1,?_⟩
    rcases a2 with a2 | a2
    ·exact .inr a2
    ·obtain⟨i,hi,e⟩:=E.hM b a2
     have e':=h.bb i hi
     rw[e] at e'
     have:=h.inj i j b (hl i hi) hgone e' hb
     omega
 exact hk2
theorem SR.frp {E:Env} {σ:St} {a:Act} {w:World} (s:Nat) {j m:Nat} {ls:List Leaf} (hs:σ.tm s= .c (.ptr j 0)) (hj:σ.hp j= .cells (ls.map Cell.lf)) (hnb:E.nb=m) (hjn:Nat.ble m j=true)
  (hl:(List.range m).all (fun i=>match σ.hp i with | .gone=>false | _=>true)=true) (h:SR E σ a w):SR E ((σ.kill j).set s (.c (.lf (.obj ls)))) a w:=by
 obtain⟨β,F,h⟩:=h
 have hgone:σ.hp j≠ .gone:=by rw[hj]; intro h; cases h
 have h2:=h.freezeG hgone (by rw[hnb]; exact Nat.le_of_ble_eq_true hjn) (fun i hi=>by
  rw[hnb] at hi
  have:=List.all_eq_true.1 hl i (List.mem_range.2 hi)
  intro e
  rw[e] at this
  cases this)
 have hB:=h.hp j
 rw[hj] at hB
 obtain⟨g,cur,e1,e2,e3,e4⟩:=hB
 have ht:=h.tm s
 rw[hs] at ht
 refine⟨_,_,fun x=>?_,h2.sz,h2.df,h2.hp,h2.inj,h2.own,h2.lt,h2.fr,h2.keep,h2.bb,h2.nbl⟩
 by_cases e:x=s
 ·subst e
  simp only[St.set,if_true]
  generalize a.tmps.getD x undef=v at ht
  cases ht with | c ht=>cases ht with | ptr _ _ g2 hg2=>
  rw[e1] at hg2
  obtain rfl:=Option.some.inj hg2
  have key:∀(i:Nat) (y:Leaf),ls[i]? =some y→∃ u,cur[i]? =some u∧LfR (fun b=>F b∨β j=some b) w y u:=fun i y hy=>by
   have hc:(ls.map Cell.lf)[i]? =some (.lf y):=by rw[List.getElem?_map,hy]; rfl
   have hlt:i<cur.size:=by
    have:=(List.getElem?_eq_some_iff.1 hc).1
    omega
   have:=e4 i _ cur[i] hc (by simp[hlt])
   refine⟨cur[i],by simp[hlt],?_⟩
   cases this with | lf h=>exact h.mono fun b hb=>⟨.inl hb,rfl⟩
  refine .c (.lf (.obj ls g 0 (fun i=>(cur[i]?).getD undef) (.inr e1) (fun i y hy=>?_) (fun i y hy=>?_)))
  ·obtain⟨u,hu,_⟩:=key i y hy
   rw[Nat.zero_add,e2.cell,hu]; rfl
  ·obtain⟨u,hu,hl⟩:=key i y hy
   rw[hu]
   exact hl
 ·have:=h2.tm x
  simpa[St.set,e] using this
end Go.Sx
namespace Go.Proofs.YtaagjnlkinojcaaGreat
set_option linter.unusedSimpArgs false
set_option linter.unusedVariables false
open Go Go.Sx
set_option maxRecDepth 10000
abbrev AtT:Type:=List Int×List Int
abbrev atL (a:AtT):List Leaf:= [.ints .i64 a.1,.ints .u8 a.2]
def z65 (v:List Int):Bool:=decide ((z12 v 0).2=0)&&decide ((z12 v 0).1.length=1)
def atW (a:AtT):List Int:=z05 (ofT 16) ((z1o a.1).1++a.2)
def z1F (a:AtT):Bool:=z0W a.1&&z65 a.2
def z25:List AtT→Bool
 | a::b::l=>decide (z0z (atW a) (atW b)<0)&&z25 (b::l)
 | _=>true
def z0C (r:List AtT):Bool:=decide (1≤r.length)&&decide (r.length≤16)&&r.all z1F&&z25 r
def z15 (n:List (List AtT)):Bool:=decide (n.length≤64)&&n.all z0C
def z0g (r:List AtT):List Int:=z05 (ofT 17) (r.flatMap atW)
def z1S (n:List (List AtT)):List Int:=z05 (ofT 16) (n.flatMap z0g)
def z4P (y:List Int) (q:Nat):List Int×Nat×Int:=
 let r:=z0d y q
 if r.2.2=0 then(if(y.length:Int) -(r.2.1:Int)<r.1.2 then([],r.2.1,3) else((y.drop q).take (r.2.1 -q+r.1.2.toNat),r.2.1+r.1.2.toNat,0)) else([],r.2.1,r.2.2)
def z7w (y:List Int):AtT×Int:=
 let o:=z4A y 0
 if o.2.2=0 then(let v:=z4P y o.2.1; if v.2.2=0 then(if v.2.1<y.length then(([],[]),7) else((o.1,v.1),0)) else(([],[]),v.2.2)) else(([],[]),o.2.2)
def z39 (x:List Int) (p:Nat):AtT×Nat×Int:=
 let r:=z0r x p (ofT 16)
 if r.2.2=0 then((z7w r.1).1,r.2.1,(z7w r.1).2) else(([],[]),p,r.2.2)
def z55 (x:List Int):Nat→Nat→List AtT→List AtT×Int
 | 0,_,_=>([],0)
 | f+1,p,acc=>
   if p<x.length then
    (if acc.length=16 then([],2) else
      let r:=z39 x p
      if r.2.2=0 then
       (if acc≠ []∧z0z (atW (acc.getLastD ([],[]))) (atW r.1)=0 then([],10)
         else if acc≠ []∧0<z0z (atW (acc.getLastD ([],[]))) (atW r.1) then([],9) else z55 x f r.2.1 (acc++ [r.1]))
      else([],r.2.2))
   else if acc= [] then([],6) else(acc,0)
def z2e (l:List Int) (p:Nat):List AtT×Nat×Int:=
 let r:=z0r l p (ofT 17)
 if r.2.2=0 then(let s:=z55 r.1 (r.1.length+1) 0 []; if s.2=0 then(s.1,r.2.1,0) else([],p,s.2)) else([],p,r.2.2)
def z56 (x:List Int):Nat→Nat→List (List AtT)→List (List AtT)×Int
 | 0,_,_=>([],0)
 | f+1,p,acc=>
   if p<x.length then(if acc.length=64 then([],2) else let r:=z2e x p; if r.2.2=0 then z56 x f r.2.1 (acc++ [r.1]) else([],r.2.2)) else(acc,0)
def z4Q (l:List Int) (p:Nat):List (List AtT)×Nat×Int:=
 let r:=z0r l p (ofT 16)
 if r.2.2=0 then(let s:=z56 r.1 (r.1.length+1) 0 []; if s.2=0 then(s.1,r.2.1,0) else([],p,s.2)) else([],p,r.2.2)
theorem zk1 {y v:List Int} {q s:Nat} (hw:WfB y) (hq:q≤y.length) (h:z4P y q=(v,s,0)) (hs:¬ s<y.length):v=y.drop q∧z65 v=true∧q<y.length:=by
 have hle:=z1k y q hq
 have hn:(z0d y q).2.2=0→q<y.length:=fun h0=>by
  have:=z86 y q h0
  omega
 have hone:=zfJ y q
 unfold z4P at h
 generalize hR:z0d y q=R at*
 obtain⟨⟨t,n⟩,r,e⟩:=R
 dsimp only at*
 by_cases he:e=0
 ·subst he
  have hq2:=hn rfl
  have hn0:=(z6d hw hR).2.1
  rw[if_pos rfl] at h
  by_cases h2:(y.length:Int) -(r:Int)<n
  ·rw[if_pos h2] at h; simp at h
  ·rw[if_neg h2] at h
   simp only[Prod.mk.injEq] at h
   obtain⟨rfl,rfl,_⟩:=h
   have e1:(y.drop q).take (r -q+n.toNat)=y.drop q:=List.take_of_length_le (by simp; omega)
   rw[e1]
   refine⟨rfl,?_,hq2⟩
   have:=hone hq2 rfl (by omega)
   unfold z65
   rw[this]
   rfl
 ·rw[if_neg he] at h
  simp only[Prod.mk.injEq] at h
  exact absurd h.2.2 he
theorem zhW {y:List Int} {a:AtT} (hw:WfB y) (h:z7w y=(a,0)):z1F a=true∧y=(z1o a.1).1++a.2:=by
 have hb:= @zfj y
 have hle:=zdZ y 0 (Nat.zero_le _)
 unfold z7w at h
 generalize hX:z4A y 0=X at*
 obtain⟨o,q,e⟩:=X
 dsimp only at*
 by_cases he:e=0
 ·subst he
  rw[if_pos rfl] at h
  obtain⟨b1,b2⟩:=hb hw hX
  generalize hV:z4P y q=V at*
  obtain⟨v,s,f⟩:=V
  dsimp only at*
  by_cases hf:f=0
  ·subst hf
   rw[if_pos rfl] at h
   by_cases hs:s<y.length
   ·rw[if_pos hs] at h; simp at h
   ·rw[if_neg hs] at h
    simp only[Prod.mk.injEq] at h
    obtain⟨rfl,_⟩:=h
    obtain⟨c1,c2,c3⟩:=zk1 hw (by omega) hV hs
    refine⟨by unfold z1F; rw[b1,c2]; rfl,?_⟩
    unfold z1o
    rw[if_pos b1,c1]
    simpa using b2
  ·rw[if_neg hf] at h
   simp only[Prod.mk.injEq] at h
   exact absurd h.2 hf
 ·rw[if_neg he] at h
  simp only[Prod.mk.injEq] at h
  exact absurd h.2 he
theorem zbI {x:List Int} {a:AtT} {p q:Nat} (hw:WfB x) (h:z39 x p=(a,q,0)):z1F a=true∧x.drop p=atW a++x.drop q:=by
 have hm:=z0H x p (ofT 16)
 unfold z39 at h
 generalize hX:z0r x p (ofT 16)=X at*
 obtain⟨y,q1,e⟩:=X
 dsimp only at*
 by_cases he:e=0
 ·subst he
  rw[if_pos rfl] at h
  generalize hI:z7w y=I at*
  obtain⟨a1,f⟩:=I
  simp only[Prod.mk.injEq] at h
  obtain⟨rfl,rfl,rfl⟩:=h
  obtain⟨b1,b2⟩:=zhW (fun z hz=>hw z (hm.2 z hz)) hI
  refine⟨b1,?_⟩
  have:=(z2Y hw hX).2
  unfold atW
  rw[←b2]
  exact this
 ·rw[if_neg he] at h
  simp only[Prod.mk.injEq] at h
  exact absurd h.2.2 he
end Go.Proofs.YtaagjnlkinojcaaGreat

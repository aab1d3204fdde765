/-
  Chapter 02: lengths that are read. The conditions: rows of at most a million bytes.
-/
import Derived.Test.YtaagjnlkinojcaaGreatC4
namespace Go.Proofs.YtaagjnlkinojcaaGreat
set_option linter.unusedSimpArgs false
set_option linter.unusedVariables false
open Go.Sx
set_option maxRecDepth 10000
theorem zkY (l:List Int) (p n:Nat) (hn1:1≤n) (hn4:n≤4) (hp:p≤l.length) (hl:l.length≤16000000) (hw:WfB l):Ct Tryz.prog 205 [.c (.ptr 0 0),lv (.int .i64 (n:Int))] [z05 l p] (zdf (z2P l p n)) [z05 l (z2P l p n).2.1] []:=by
 generalize hRR:z2P l p n=R
 unfold z2P at hRR
 refine z00 Tryz.func205 rfl rfl rfl rfl rfl (fun E hn hb=>?_)
 repeat (refine nst ?_)
 by_cases hpe:l.length<p+n
 ·rw[if_pos hpe] at hRR
  subst hRR
  have ht:=z8Y l p n (by omega) hp (by omega) hl
  refine z0w [0] ht rfl rfl (by rw[hn]; rfl) rfl rfl (by trivial) ⟨rfl,rfl,(by simp[z0e]),rfl⟩ ?_
  repeat (refine nst ?_)
  refine z06 rfl (by simp) (fun h1=>?_) (fun h1=>?_)
  ·repeat (refine nst ?_)
   exact rt1 []
  ·simp at h1
 ·rw[if_neg hpe] at hRR
  have ht:=z6r l p n (by omega) hl
  have hxl:((l.drop p).take n).length=n:=by simp; omega
  have hx0:l.getD p 0=((l.drop p).take n).getD 0 0:=by
   simp only[List.getD_eq_getElem?_getD,List.getElem?_take,List.getElem?_drop]
   rw[if_pos (by omega),Nat.add_zero]
  have hxw:WfB ((l.drop p).take n):=fun x hx=>hw x (List.mem_of_mem_drop (List.mem_of_mem_take hx))
  rw[hx0] at hRR
  generalize (l.drop p).take n=x at*
  refine z0w [0] ht rfl rfl (by rw[hn]; rfl) rfl rfl (by trivial) ⟨rfl,rfl,(by simp[z0e]),rfl⟩ ?_
  repeat (refine nst ?_)
  refine z06 rfl (by simp) (fun h1=>?_) (fun h1=>?_)
  ·simp at h1
  repeat (refine nst ?_)
  refine z09 (St.le_of (l:= [(6,B8 x),(8,lv (.int .i64 (z0G 0 (x.take 0)))),(20,B8 x),(21,lv (.int .i64 (x.length:Int))),(22,lv (.int .i64 ((0:Nat):Int)))]) (h:= [(0,z05 l (p+n))]) (by refine⟨?_,?_⟩<;>(repeat' (first | exact trivial | exact rfl | refine⟨?_,?_⟩))<;>first | exact rfl |(simp; done) | skip)) ?_
  refine z0h (ι:= {i:Nat//i≤x.length}) (fun i=>St.of [(6,B8 x),(8,lv (.int .i64 (z0G 0 (x.take i.1)))),(20,B8 x),(21,lv (.int .i64 (x.length:Int))),(22,lv (.int .i64 (i.1:Int)))] [(0,z05 l (p+n))]) (fun i=>x.length -i.1) (fun i=>?_) ⟨0,by omega⟩
  obtain⟨i,hi⟩:=i
  dsimp only
  have hwt:WfB (x.take i):=zem hxw i
  have hv0:=z7r (x.take i) 0 (by decide) hwt
  have hv1:z0G 0 (x.take i)<256^4:=zhi (x.take i) 4 (by simp; omega) hwt
  repeat (refine nst ?_)
  refine z06 rfl (by simp) (fun hc=>?_) (fun hc=>?_)
  ·have hi8:i<x.length:=by simp at hc; omega
   have hx:=hxw x[i] (List.getElem_mem hi8)
   have hT:x.take (i+1)=x.take i++ [x[i]]:=by rw[List.take_add_one,List.getElem?_eq_getElem hi8]; rfl
   have hg:x.getD (i:Int).toNat 0=x[i]:=by simp[hi8]
   have hvs:=zdc (x.take i) x[i]
   rw[←hT] at hvs
   generalize z0G 0 (x.take i)=v at*
   have hv2:v<4294967296:=by omega
   clear hv1
   repeat (refine nst ?_)
   rw[hg]
   rw[zxn v x[i] ⟨hv0,by omega⟩ hx]
   repeat (refine nst ?_)
   refine z07 ⟨i+1,by omega⟩ (by dsimp only; omega) (St.le_of ⟨⟨rfl,?_,rfl,rfl,rfl⟩,rfl⟩)
   show lv (.int .i64 (256*v+x[i]))=lv (.int .i64 (z0G 0 (x.take (i+1))))
   rw[hvs]
  ·have:i=x.length:=by simp at hc; omega
   subst this
   rw[List.take_length] at*
   generalize z0G 0 x=v at*
   repeat (refine nst ?_)
   rw[show Int.toNat 0=0 from rfl]
   generalize x.getD 0 0=z at*
   refine z06 rfl (by simp) (fun h2=>?_) (fun h2=>?_)
   ·have h2':z=0∨v<128:=by
     by_cases hz:z=0
     ·exact .inl hz
     ·simp[hz] at h2; exact .inr h2
    rw[if_pos h2'] at hRR
    subst hRR
    repeat (refine nst ?_)
    exact rt1 []
   ·have h2':¬ (z=0∨v<128):=by
     rintro(rfl | h)
     ·simp at h2
     ·simp[h] at h2
    rw[if_neg h2'] at hRR
    repeat (refine nst ?_)
    refine z06 rfl (by simp) (fun h3=>?_) (fun h3=>?_)
    ·have h3':16777216<v:=by simpa using h3
     rw[if_pos h3'] at hRR
     subst hRR
     repeat (refine nst ?_)
     exact rt1 []
    ·have h3':¬ 16777216<v:=by simpa using h3
     rw[if_neg h3'] at hRR
     subst hRR
     repeat (refine nst ?_)
     exact rt1 []
theorem zjf (g:FuncId) (l:List Int) (p q:Nat) (t:Int) (hg:Ct Tryz.prog g [.c (.ptr 1 0)] [z05 l p,z1c] (.tup [lv (.int .i64 t),lv (.int .i64 0)]) [z05 l q,z1c] []):
  Ct Tryz.prog 203 [.c (.ptr 0 0),.c (.fn (.func g) [] [.ptr 1 0])] [z05 l p,z1c] (.tup [lv (.int .i64 t),lv (.int .i64 0)]) [z05 l q,z1c] []:=by
 refine z00 Tryz.func203 rfl rfl rfl rfl rfl (fun E hn hb=>?_)
 repeat (refine nst ?_)
 refine z0W (z0E (z1F (z1W l p) rfl rfl rfl (by exact vcs) ⟨.inr (.inr ⟨0,0,_,_,rfl,rfl,rfl,rfl⟩),trivial⟩ rfl) rfl) (by rw[hn]; rfl) ?_
 repeat (refine nst ?_)
 refine z0w [0,1] hg rfl rfl (by rw[hn]; rfl) rfl rfl (by trivial) ⟨rfl,⟨rfl,rfl⟩,(by simp[z0e]),rfl⟩ ?_
 repeat (refine nst ?_)
 refine z06 rfl (by simp) (fun h1=>?_) (fun h1=>?_)
 ·simp at h1
 repeat (refine nst ?_)
 exact rt1 []
theorem zhc (g:FuncId) (l:List Int) (p q:Nat) (t:Int) (e:Int) (he:e≠0) (hq:p≤q) (hl:q≤16000000) (hg:Ct Tryz.prog g [.c (.ptr 1 0)] [z05 l p,z1c] (.tup [lv (.int .i64 t),lv (.int .i64 e)]) [z05 l q,z1c] []):
  Ct Tryz.prog 203 [.c (.ptr 0 0),.c (.fn (.func g) [] [.ptr 1 0])] [z05 l p,z1c] (.tup [lv (.int .i64 0),lv (.int .i64 e)]) [z05 l p,z1c] []:=by
 have hbk:=z24 l q p hq hl
 refine z00 Tryz.func203 rfl rfl rfl rfl rfl (fun E hn hb=>?_)
 repeat (refine nst ?_)
 refine z0W (z0E (z1F (z1W l p) rfl rfl rfl (by exact vcs) ⟨.inr (.inr ⟨0,0,_,_,rfl,rfl,rfl,rfl⟩),trivial⟩ rfl) rfl) (by rw[hn]; rfl) ?_
 repeat (refine nst ?_)
 refine z0w [0,1] hg rfl rfl (by rw[hn]; rfl) rfl rfl (by trivial) ⟨rfl,⟨rfl,rfl⟩,(by simp[z0e]),rfl⟩ ?_
 repeat (refine nst ?_)
 refine z06 rfl (by simp) (fun h1=>?_) (fun h1=>?_)
 ·repeat (refine nst ?_)
  refine z0w [0] hbk rfl rfl (by rw[hn]; rfl) rfl rfl (by trivial) ⟨rfl,rfl,(by simp[z0e]),rfl⟩ ?_
  repeat (refine nst ?_)
  exact rt1 []
 ·simp[he] at h1
theorem zkZ (l:List Int) (p:Nat) (hp:p≤l.length) (hl:l.length≤16000000) (hw:WfB l):Ct Tryz.prog 204 [.c (.ptr 1 0)] [z05 l p,z1c] (zdf (z3w l p)) [z05 l (z3w l p).2.1,z1c] []:=by
 generalize hRR:z3w l p=R
 unfold z3w at hRR
 refine z00 Tryz.func204 rfl rfl rfl rfl rfl (fun E hn hb=>?_)
 repeat (refine nst ?_)
 by_cases hpe:p<l.length
 ·rw[if_pos hpe] at hRR
  have hd:=z5C hw p
  have hby:=z8e l p hpe hl
  generalize l.getD p 0=d at*
  have ha:=zde hd
  refine z0w [0] hby rfl rfl (by rw[hn]; rfl) rfl rfl (by trivial) ⟨rfl,rfl,(by simp[z0e]),rfl⟩ ?_
  repeat (refine nst ?_)
  refine z06 rfl (by simp) (fun h1=>?_) (fun h1=>?_)
  ·simp at h1
  repeat (refine nst ?_)
  refine z06 rfl (by simp) (fun h2=>?_) (fun h2=>?_)
  ·have h2':d<128:=by simpa using h2
   rw[if_pos h2'] at hRR
   subst hRR
   repeat (refine nst ?_)
   exact rt1 []
  ·have h2':¬ d<128:=by simpa using h2
   rw[if_neg h2'] at hRR
   repeat (refine nst ?_)
   refine z06 rfl (by simp) (fun h3=>?_) (fun h3=>?_)
   ·have h3':d=128∨132<d:=by
     by_cases hz:d=128
     ·exact .inl hz
     ·simp[hz] at h3; exact .inr h3
    rw[if_pos h3'] at hRR
    subst hRR
    repeat (refine nst ?_)
    exact rt1 []
   ·have h3':¬ (d=128∨132<d):=by
     rintro(rfl | h)
     ·simp at h3
     ·simp[h] at h3
    rw[if_neg h3'] at hRR
    subst hRR
    obtain⟨n,hn'⟩:∃ n:Nat,d%128=(n:Int):=⟨(d%128).toNat,by omega⟩
    have hlg:=zkY l (p+1) n (by omega) (by omega) (by omega) hl hw
    rw[hn'] at ha ⊢
    rw[Int.toNat_natCast]
    generalize z2P l (p+1) n=N at*
    repeat (refine nst ?_)
    rw[ha]
    refine z0w [0] hlg rfl rfl (by rw[hn]; rfl) rfl rfl (by trivial) ⟨rfl,rfl,(by simp[z0e]),rfl⟩ ?_
    repeat (refine nst ?_)
    exact rt1 []
 ·rw[if_neg hpe] at hRR
  subst hRR
  have e:p=l.length:=by omega
  subst e
  have hby:=z6L l hl
  refine z0w [0] hby rfl rfl (by rw[hn]; rfl) rfl rfl (by trivial) ⟨rfl,rfl,(by simp[z0e]),rfl⟩ ?_
  repeat (refine nst ?_)
  refine z06 rfl (by simp) (fun h1=>?_) (fun h1=>?_)
  ·repeat (refine nst ?_)
   exact rt1 []
  ·simp at h1
theorem zfF (l:List Int) (p:Nat) (hp:p≤l.length) (hl:l.length≤16000000) (hw:WfB l):Ct Tryz.prog 176 [.c (.ptr 0 0)] [z05 l p] (zdf (lenP l p)) [z05 l (lenP l p).2.1] []:=by
 have hr:=zkZ l p hp hl hw
 have hle:=zep l p hp
 generalize hRR:lenP l p=R
 unfold lenP at hRR
 by_cases he:(z3w l p).2.2=0
 ·rw[z2s _ _ _ he] at hRR
  rw[hRR] at hr he hle
  unfold zdf at hr ⊢
  rw[he] at hr ⊢
  have hk:=zjf 204 l p R.2.1 R.1 hr
  refine z00 Tryz.func176 rfl rfl rfl rfl rfl (fun E hn hb=>?_)
  repeat (refine nst ?_)
  refine z1q rfl rfl rfl (by rw[hn]; rfl) rfl (by exact vcs) rfl rfl ?_
  repeat (refine nst ?_)
  refine z0w [0,65] hk rfl rfl (by rw[hn]; rfl) rfl rfl (by trivial) ⟨rfl,⟨rfl,rfl⟩,(by simp[z0e]),rfl⟩ ?_
  repeat (refine nst ?_)
  exact rt1 []
 ·rw[z1v _ _ _ he] at hRR
  subst hRR
  generalize z3w l p=R at*
  have hk:=zhc 204 l p R.2.1 R.1 R.2.2 he hle.1 (by omega) hr
  refine z00 Tryz.func176 rfl rfl rfl rfl rfl (fun E hn hb=>?_)
  repeat (refine nst ?_)
  refine z1q rfl rfl rfl (by rw[hn]; rfl) rfl (by exact vcs) rfl rfl ?_
  repeat (refine nst ?_)
  refine z0w [0,65] hk rfl rfl (by rw[hn]; rfl) rfl rfl (by trivial) ⟨rfl,⟨rfl,rfl⟩,(by simp[z0e]),rfl⟩ ?_
  repeat (refine nst ?_)
  exact rt1 []
end Go.Proofs.YtaagjnlkinojcaaGreat

/-
  Chapter 02: what stands ahead of contents, and contents. The conditions: rows of at most a million bytes.
-/
import Derived.Test.YtaagjnlkinojcaaGreatC4
namespace Go.Proofs.YtaagjnlkinojcaaGreat
set_option linter.unusedSimpArgs false
set_option linter.unusedVariables false
open Go.Sx
set_option maxRecDepth 10000
theorem zkC (l:List Int) (p n:Nat) (hn1:1≤n) (hn4:n≤4) (hp:p≤l.length) (hl:l.length≤16000000) (hw:WfB l):Ct Tryz.prog 205 [.c (.ptr 0 0),lv (.int .i64 (n:Int))] [z04 l p] (zde (z2Q l p n)) [z04 l (z2Q l p n).2.1] []:=by
 generalize hRR:z2Q l p n=R
 unfold z2Q at hRR
 refine z00 Tryz.func205 rfl rfl rfl rfl rfl (fun E hn hb=>?_)
 repeat (refine nst ?_)
 by_cases hpe:l.length<p+n
 ·rw[if_pos hpe] at hRR
  subst hRR
  have ht:=z92 l p n (by omega) hp (by omega) hl
  refine z0w [0] ht rfl rfl (by rw[hn]; rfl) rfl rfl (by trivial) ⟨rfl,rfl,(by simp[z0b]),rfl⟩ ?_
  repeat (refine nst ?_)
  refine z06 rfl (by simp) (fun h1=>?_) (fun h1=>?_)
  ·repeat (refine nst ?_)
   exact rt1 []
  ·simp at h1
 ·rw[if_neg hpe] at hRR
  have ht:=z6A l p n (by omega) hl
  have hxl:((l.drop p).take n).length=n:=by simp; omega
  have hx0:l.getD p 0=((l.drop p).take n).getD 0 0:=by
   simp only[List.getD_eq_getElem?_getD,List.getElem?_take,List.getElem?_drop]
   rw[if_pos (by omega),Nat.add_zero]
  have hxw:WfB ((l.drop p).take n):=fun x hx=>hw x (List.mem_of_mem_drop (List.mem_of_mem_take hx))
  rw[hx0] at hRR
  generalize (l.drop p).take n=x at*
  refine z0w [0] ht rfl rfl (by rw[hn]; rfl) rfl rfl (by trivial) ⟨rfl,rfl,(by simp[z0b]),rfl⟩ ?_
  repeat (refine nst ?_)
  refine z06 rfl (by simp) (fun h1=>?_) (fun h1=>?_)
  ·simp at h1
  repeat (refine nst ?_)
  refine z09 (St.le_of (l:= [(6,B8 x),(8,lv (.int .i64 (z0F 0 (x.take 0)))),(20,B8 x),(21,lv (.int .i64 (x.length:Int))),(22,lv (.int .i64 ((0:Nat):Int)))]) (h:= [(0,z04 l (p+n))]) (by refine⟨?_,?_⟩<;>(repeat' (first | exact trivial | exact rfl | refine⟨?_,?_⟩))<;>first | exact rfl |(simp; done) | skip)) ?_
  refine z0k (ι:= {i:Nat//i≤x.length}) (fun i=>St.of [(6,B8 x),(8,lv (.int .i64 (z0F 0 (x.take i.1)))),(20,B8 x),(21,lv (.int .i64 (x.length:Int))),(22,lv (.int .i64 (i.1:Int)))] [(0,z04 l (p+n))]) (fun i=>x.length -i.1) (fun i=>?_) ⟨0,by omega⟩
  obtain⟨i,hi⟩:=i
  dsimp only
  have hwt:WfB (x.take i):=zew hxw i
  have hv0:=z7o (x.take i) 0 (by decide) hwt
  have hv1:z0F 0 (x.take i)<256^4:=zhq (x.take i) 4 (by simp; omega) hwt
  repeat (refine nst ?_)
  refine z06 rfl (by simp) (fun hc=>?_) (fun hc=>?_)
  ·have hi8:i<x.length:=by simp at hc; omega
   have hx:=hxw x[i] (List.getElem_mem hi8)
   have hT:x.take (i+1)=x.take i++ [x[i]]:=by rw[List.take_add_one,List.getElem?_eq_getElem hi8]; rfl
   have hg:x.getD (i:Int).toNat 0=x[i]:=by simp[hi8]
   have hvs:=zdb (x.take i) x[i]
   rw[←hT] at hvs
   generalize z0F 0 (x.take i)=v at*
   have hv2:v<4294967296:=by omega
   clear hv1
   repeat (refine nst ?_)
   rw[hg]
   rw[zxL v x[i] ⟨hv0,by omega⟩ hx]
   repeat (refine nst ?_)
   refine z08 ⟨i+1,by omega⟩ (by dsimp only; omega) (St.le_of ⟨⟨rfl,?_,rfl,rfl,rfl⟩,rfl⟩)
   show lv (.int .i64 (256*v+x[i]))=lv (.int .i64 (z0F 0 (x.take (i+1))))
   rw[hvs]
  ·have:i=x.length:=by simp at hc; omega
   subst this
   rw[List.take_length] at*
   generalize z0F 0 x=v at*
   repeat (refine nst ?_)
   rw[show Int.toNat 0=0 from rfl]
   generalize x.getD 0 0=z at*
   refine z06 rfl (by simp) (fun h2=>?_) (fun h2=>?_)
   ·have h2':z=0∨v<128:=by
     by_cases hz:z=0
     ·exact .inl hz
     ·simp[hz] at h2; exact .inr h2
    rw[if_pos h2'] at hRR
    subst hRR
    repeat (refine nst ?_)
    exact rt1 []
   ·have h2':¬ (z=0∨v<128):=by
     rintro(rfl | h)
     ·simp at h2
     ·simp[h] at h2
    rw[if_neg h2'] at hRR
    repeat (refine nst ?_)
    refine z06 rfl (by simp) (fun h3=>?_) (fun h3=>?_)
    ·have h3':16777216<v:=by simpa using h3
     rw[if_pos h3'] at hRR
     subst hRR
     repeat (refine nst ?_)
     exact rt1 []
    ·have h3':¬ 16777216<v:=by simpa using h3
     rw[if_neg h3'] at hRR
     subst hRR
     repeat (refine nst ?_)
     exact rt1 []
theorem ziw (g:FuncId) (l:List Int) (p q:Nat) (t:Int) (hg:Ct Tryz.prog g [.c (.ptr 1 0)] [z04 l p,z1c] (.tup [lv (.int .i64 t),lv (.int .i64 0)]) [z04 l q,z1c] []):
  Ct Tryz.prog 203 [.c (.ptr 0 0),.c (.fn (.func g) [] [.ptr 1 0])] [z04 l p,z1c] (.tup [lv (.int .i64 t),lv (.int .i64 0)]) [z04 l q,z1c] []:=by
 refine z00 Tryz.func203 rfl rfl rfl rfl rfl (fun E hn hb=>?_)
 repeat (refine nst ?_)
 refine z1b (z0L (z1J (z1z l p) rfl rfl rfl (by exact vcs) ⟨.inr (.inr ⟨0,0,_,_,rfl,rfl,rfl,rfl⟩),trivial⟩ rfl) rfl) (by rw[hn]; rfl) ?_
 repeat (refine nst ?_)
 refine z0w [0,1] hg rfl rfl (by rw[hn]; rfl) rfl rfl (by trivial) ⟨rfl,⟨rfl,rfl⟩,(by simp[z0b]),rfl⟩ ?_
 repeat (refine nst ?_)
 refine z06 rfl (by simp) (fun h1=>?_) (fun h1=>?_)
 ·simp at h1
 repeat (refine nst ?_)
 exact rt1 []
theorem zgB (g:FuncId) (l:List Int) (p q:Nat) (t:Int) (e:Int) (he:e≠0) (hq:p≤q) (hl:q≤16000000) (hg:Ct Tryz.prog g [.c (.ptr 1 0)] [z04 l p,z1c] (.tup [lv (.int .i64 t),lv (.int .i64 e)]) [z04 l q,z1c] []):
  Ct Tryz.prog 203 [.c (.ptr 0 0),.c (.fn (.func g) [] [.ptr 1 0])] [z04 l p,z1c] (.tup [lv (.int .i64 0),lv (.int .i64 e)]) [z04 l p,z1c] []:=by
 have hbk:=z1L l q p hq hl
 refine z00 Tryz.func203 rfl rfl rfl rfl rfl (fun E hn hb=>?_)
 repeat (refine nst ?_)
 refine z1b (z0L (z1J (z1z l p) rfl rfl rfl (by exact vcs) ⟨.inr (.inr ⟨0,0,_,_,rfl,rfl,rfl,rfl⟩),trivial⟩ rfl) rfl) (by rw[hn]; rfl) ?_
 repeat (refine nst ?_)
 refine z0w [0,1] hg rfl rfl (by rw[hn]; rfl) rfl rfl (by trivial) ⟨rfl,⟨rfl,rfl⟩,(by simp[z0b]),rfl⟩ ?_
 repeat (refine nst ?_)
 refine z06 rfl (by simp) (fun h1=>?_) (fun h1=>?_)
 ·repeat (refine nst ?_)
  refine z0w [0] hbk rfl rfl (by rw[hn]; rfl) rfl rfl (by trivial) ⟨rfl,rfl,(by simp[z0b]),rfl⟩ ?_
  repeat (refine nst ?_)
  exact rt1 []
 ·simp[he] at h1
theorem zkD (l:List Int) (p:Nat) (hp:p≤l.length) (hl:l.length≤16000000) (hw:WfB l):Ct Tryz.prog 204 [.c (.ptr 1 0)] [z04 l p,z1c] (zde (z3v l p)) [z04 l (z3v l p).2.1,z1c] []:=by
 generalize hRR:z3v l p=R
 unfold z3v at hRR
 refine z00 Tryz.func204 rfl rfl rfl rfl rfl (fun E hn hb=>?_)
 repeat (refine nst ?_)
 by_cases hpe:p<l.length
 ·rw[if_pos hpe] at hRR
  have hd:=z5E hw p
  have hby:=z8h l p hpe hl
  generalize l.getD p 0=d at*
  have ha:=zdd hd
  refine z0w [0] hby rfl rfl (by rw[hn]; rfl) rfl rfl (by trivial) ⟨rfl,rfl,(by simp[z0b]),rfl⟩ ?_
  repeat (refine nst ?_)
  refine z06 rfl (by simp) (fun h1=>?_) (fun h1=>?_)
  ·simp at h1
  repeat (refine nst ?_)
  refine z06 rfl (by simp) (fun h2=>?_) (fun h2=>?_)
  ·have h2':d<128:=by simpa using h2
   rw[if_pos h2'] at hRR
   subst hRR
   repeat (refine nst ?_)
   exact rt1 []
  ·have h2':¬ d<128:=by simpa using h2
   rw[if_neg h2'] at hRR
   repeat (refine nst ?_)
   refine z06 rfl (by simp) (fun h3=>?_) (fun h3=>?_)
   ·have h3':d=128∨132<d:=by
     by_cases hz:d=128
     ·exact .inl hz
     ·simp[hz] at h3; exact .inr h3
    rw[if_pos h3'] at hRR
    subst hRR
    repeat (refine nst ?_)
    exact rt1 []
   ·have h3':¬ (d=128∨132<d):=by
     rintro(rfl | h)
     ·simp at h3
     ·simp[h] at h3
    rw[if_neg h3'] at hRR
    subst hRR
    obtain⟨n,hn'⟩:∃ n:Nat,d%128=(n:Int):=⟨(d%128).toNat,by omega⟩
    have hlg:=zkC l (p+1) n (by omega) (by omega) (by omega) hl hw
    rw[hn'] at ha ⊢
    rw[Int.toNat_natCast]
    generalize z2Q l (p+1) n=N at*
    repeat (refine nst ?_)
    rw[ha]
    refine z0w [0] hlg rfl rfl (by rw[hn]; rfl) rfl rfl (by trivial) ⟨rfl,rfl,(by simp[z0b]),rfl⟩ ?_
    repeat (refine nst ?_)
    exact rt1 []
 ·rw[if_neg hpe] at hRR
  subst hRR
  have e:p=l.length:=by omega
  subst e
  have hby:=z6P l hl
  refine z0w [0] hby rfl rfl (by rw[hn]; rfl) rfl rfl (by trivial) ⟨rfl,rfl,(by simp[z0b]),rfl⟩ ?_
  repeat (refine nst ?_)
  refine z06 rfl (by simp) (fun h1=>?_) (fun h1=>?_)
  ·repeat (refine nst ?_)
   exact rt1 []
  ·simp at h1
theorem zfo (l:List Int) (p:Nat) (hp:p≤l.length) (hl:l.length≤16000000) (hw:WfB l):Ct Tryz.prog 176 [.c (.ptr 0 0)] [z04 l p] (zde (lenP l p)) [z04 l (lenP l p).2.1] []:=by
 have hr:=zkD l p hp hl hw
 have hle:=zez l p hp
 generalize hRR:lenP l p=R
 unfold lenP at hRR
 by_cases he:(z3v l p).2.2=0
 ·rw[z34 _ _ _ he] at hRR
  rw[hRR] at hr he hle
  unfold zde at hr ⊢
  rw[he] at hr ⊢
  have hk:=ziw 204 l p R.2.1 R.1 hr
  refine z00 Tryz.func176 rfl rfl rfl rfl rfl (fun E hn hb=>?_)
  repeat (refine nst ?_)
  refine z1v rfl rfl rfl (by rw[hn]; rfl) rfl (by exact vcs) rfl rfl ?_
  repeat (refine nst ?_)
  refine z0w [0,65] hk rfl rfl (by rw[hn]; rfl) rfl rfl (by trivial) ⟨rfl,⟨rfl,rfl⟩,(by simp[z0b]),rfl⟩ ?_
  repeat (refine nst ?_)
  exact rt1 []
 ·rw[z3k _ _ _ he] at hRR
  subst hRR
  generalize z3v l p=R at*
  have hk:=zgB 204 l p R.2.1 R.1 R.2.2 he hle.1 (by omega) hr
  refine z00 Tryz.func176 rfl rfl rfl rfl rfl (fun E hn hb=>?_)
  repeat (refine nst ?_)
  refine z1v rfl rfl rfl (by rw[hn]; rfl) rfl (by exact vcs) rfl rfl ?_
  repeat (refine nst ?_)
  refine z0w [0,65] hk rfl rfl (by rw[hn]; rfl) rfl rfl (by trivial) ⟨rfl,⟨rfl,rfl⟩,(by simp[z0b]),rfl⟩ ?_
  repeat (refine nst ?_)
  exact rt1 []
abbrev frA (f:z0h×Int):Av:= .agg [.lf (.v (.int .i64 f.1.1)),.lf (.v (.int .i64 f.1.2.1)),.lf (.v (.bool f.1.2.2)),.lf (.v (.int .i64 f.2))]
abbrev frE (f:z0h×Int) (e:Int):Av:= .tup [frA f,lv (.int .i64 e)]
theorem z72 {α:Type} (z:α) (p:Nat) (r:α×Nat×Int) (h:¬ (z0U z p r).2.2=0):(z0U z p r).2.1=p:=by
 unfold z0U at h ⊢
 split
 ·rename_i h2
  rw[if_pos h2] at h
  exact absurd h2 h
 ·rfl
theorem zix (g:FuncId) (l:List Int) (p q:Nat) (t:z0h×Int) (hg:Ct Tryz.prog g [.c (.ptr 1 0)] [z04 l p,z1c] (frE t 0) [z04 l q,z1c] []):
  Ct Tryz.prog 173 [.c (.ptr 0 0),.c (.fn (.func g) [] [.ptr 1 0])] [z04 l p,z1c] (frE t 0) [z04 l q,z1c] []:=by
 refine z00 Tryz.func173 rfl rfl rfl rfl rfl (fun E hn hb=>?_)
 repeat (refine nst ?_)
 refine z0E rfl rfl rfl (by rw[hn]; rfl) rfl z49 ?_
 repeat (refine nst ?_)
 refine z1b (z0L (z1J (z1z l p) rfl rfl rfl (by exact vcs) ⟨.inr (.inr ⟨0,0,_,_,rfl,rfl,rfl,rfl⟩),trivial⟩ rfl) rfl) (by rw[hn]; rfl) ?_
 repeat (refine nst ?_)
 refine z0w [0,1] hg rfl rfl (by rw[hn]; rfl) rfl rfl (by trivial) ⟨rfl,⟨rfl,rfl⟩,(by simp[z0b]),rfl⟩ ?_
 repeat (refine nst ?_)
 refine z0E rfl rfl rfl (by rw[hn]; rfl) rfl z49 ?_
 repeat (refine nst ?_)
 refine z0m rfl rfl rfl rfl rfl (by exact vcs) rfl rfl rfl (by rw[z2k]; rfl) (by rw[z3g]; rfl) rfl rfl ?_
 repeat (refine nst ?_)
 refine z06 rfl (by simp) (fun h1=>?_) (fun h1=>?_)
 ·simp at h1
 repeat (refine nst ?_)
 refine z0m rfl rfl rfl rfl rfl (by exact vcs) rfl rfl rfl (by rw[z2k]; rfl) (by rw[z3g]; rfl) rfl rfl ?_
 repeat (refine nst ?_)
 exact rt1 []
theorem zgC (g:FuncId) (l:List Int) (p q:Nat) (t:z0h×Int) (e:Int) (he:e≠0) (hq:p≤q) (hl:q≤16000000) (hg:Ct Tryz.prog g [.c (.ptr 1 0)] [z04 l p,z1c] (frE t e) [z04 l q,z1c] []):
  Ct Tryz.prog 173 [.c (.ptr 0 0),.c (.fn (.func g) [] [.ptr 1 0])] [z04 l p,z1c] (frE (z2n,0) e) [z04 l p,z1c] []:=by
 have hbk:=z1L l q p hq hl
 refine z00 Tryz.func173 rfl rfl rfl rfl rfl (fun E hn hb=>?_)
 repeat (refine nst ?_)
 refine z0E rfl rfl rfl (by rw[hn]; rfl) rfl z49 ?_
 repeat (refine nst ?_)
 refine z1b (z0L (z1J (z1z l p) rfl rfl rfl (by exact vcs) ⟨.inr (.inr ⟨0,0,_,_,rfl,rfl,rfl,rfl⟩),trivial⟩ rfl) rfl) (by rw[hn]; rfl) ?_
 repeat (refine nst ?_)
 refine z0w [0,1] hg rfl rfl (by rw[hn]; rfl) rfl rfl (by trivial) ⟨rfl,⟨rfl,rfl⟩,(by simp[z0b]),rfl⟩ ?_
 repeat (refine nst ?_)
 refine z0E rfl rfl rfl (by rw[hn]; rfl) rfl z49 ?_
 repeat (refine nst ?_)
 refine z0m rfl rfl rfl rfl rfl (by exact vcs) rfl rfl rfl (by rw[z2k]; rfl) (by rw[z3g]; rfl) rfl rfl ?_
 repeat (refine nst ?_)
 refine z06 rfl (by simp) (fun h1=>?_) (fun h1=>?_)
 ·repeat (refine nst ?_)
  refine z0E rfl rfl rfl (by rw[hn]; rfl) rfl z49 ?_
  repeat (refine nst ?_)
  refine z0w [0] hbk rfl rfl (by rw[hn]; rfl) rfl rfl (by trivial) ⟨rfl,rfl,(by simp[z0b]),rfl⟩ ?_
  repeat (refine nst ?_)
  refine z0m rfl rfl rfl rfl rfl (by exact vcs) rfl rfl rfl (by rw[z2k]; rfl) (by rw[z3g]; rfl) rfl rfl ?_
  repeat (refine nst ?_)
  exact rt1 []
 ·simp[he] at h1
theorem zkE (l:List Int) (p:Nat) (hp:p≤l.length) (hl:l.length≤16000000) (hw:WfB l):Ct Tryz.prog 174 [.c (.ptr 1 0)] [z04 l p,z1c] (frE (z36 l p).1 (z36 l p).2.2) [z04 l (z36 l p).2.1,z1c] []:=by
 have ht:=zfR l p hp hl hw
 have hnl:=zfo l (z0P l p).2.1 (z8I l p hp).2 hl hw
 have hst:¬ (z0P l p).2.2=0→(z0P l p).2.1=p:=z72 _ _ _
 generalize hRR:z36 l p=R
 unfold z36 at hRR
 generalize z0P l p=T at*
 generalize lenP l T.2.1=N at*
 refine z00 Tryz.func174 rfl rfl rfl rfl rfl (fun E hn hb=>?_)
 repeat (refine nst ?_)
 refine z0E rfl rfl rfl (by rw[hn]; rfl) rfl z49 ?_
 repeat (refine nst ?_)
 refine z0w [0] ht rfl rfl (by rw[hn]; rfl) rfl rfl (by trivial) ⟨rfl,rfl,(by simp[z0b]),rfl⟩ ?_
 repeat (refine nst ?_)
 refine z0E rfl rfl rfl (by rw[hn]; rfl) rfl z3U ?_
 repeat (refine nst ?_)
 refine z0m rfl rfl rfl rfl rfl (by exact vcs) rfl rfl rfl (by rw[z1f]; rfl) (by rw[z2G]; rfl) rfl rfl ?_
 repeat (refine nst ?_)
 refine z06 rfl (by simp) (fun h1=>?_) (fun h1=>?_)
 ·have h1':¬ T.2.2=0:=by simpa using h1
  rw[if_neg h1'] at hRR
  subst hRR
  rw[hst h1']
  repeat (refine nst ?_)
  refine z0m rfl rfl rfl rfl rfl (by exact vcs) rfl rfl rfl (by rw[z2k]; rfl) (by rw[z3g]; rfl) rfl rfl ?_
  repeat (refine nst ?_)
  exact rt1 []
 ·have h1':T.2.2=0:=by simpa using h1
  rw[if_pos h1'] at hRR
  subst hRR
  repeat (refine nst ?_)
  refine z0w [0] hnl rfl rfl (by rw[hn]; rfl) rfl rfl (by trivial) ⟨rfl,rfl,(by simp[z0b]),rfl⟩ ?_
  repeat (refine nst ?_)
  refine z0m rfl rfl rfl rfl rfl (by exact vcs) rfl rfl rfl (by rw[z2k]; rfl) (by rw[z3g]; rfl) rfl rfl ?_
  repeat (refine nst ?_)
  exact rt1 []
theorem z8t (l:List Int) (p:Nat) (hp:p≤l.length) (hl:l.length≤16000000) (hw:WfB l):Ct Tryz.prog 129 [.c (.ptr 0 0)] [z04 l p] (frE (z0d l p).1 (z0d l p).2.2) [z04 l (z0d l p).2.1] []:=by
 have hr:=zkE l p hp hl hw
 have hle:=zeB l p hp
 generalize hRR:z0d l p=R
 unfold z0d at hRR
 by_cases he:(z36 l p).2.2=0
 ·rw[z34 _ _ _ he] at hRR
  rw[hRR] at hr he hle
  rw[he] at hr ⊢
  have hk:=zix 174 l p R.2.1 R.1 hr
  refine z00 Tryz.func129 rfl rfl rfl rfl rfl (fun E hn hb=>?_)
  repeat (refine nst ?_)
  refine z1v rfl rfl rfl (by rw[hn]; rfl) rfl (by exact vcs) rfl rfl ?_
  repeat (refine nst ?_)
  refine z0E rfl rfl rfl (by rw[hn]; rfl) rfl z49 ?_
  repeat (refine nst ?_)
  refine z0w [0,65] hk rfl rfl (by rw[hn]; rfl) rfl rfl (by trivial) ⟨rfl,⟨rfl,rfl⟩,(by simp[z0b]),rfl⟩ ?_
  repeat (refine nst ?_)
  refine z0m rfl rfl rfl rfl rfl (by exact vcs) rfl rfl rfl (by rw[z2k]; rfl) (by rw[z3g]; rfl) rfl rfl ?_
  repeat (refine nst ?_)
  exact rt1 []
 ·rw[z3k _ _ _ he] at hRR
  subst hRR
  generalize z36 l p=R at*
  have hk:=zgC 174 l p R.2.1 R.1 R.2.2 he hle.1 (by omega) hr
  refine z00 Tryz.func129 rfl rfl rfl rfl rfl (fun E hn hb=>?_)
  repeat (refine nst ?_)
  refine z1v rfl rfl rfl (by rw[hn]; rfl) rfl (by exact vcs) rfl rfl ?_
  repeat (refine nst ?_)
  refine z0E rfl rfl rfl (by rw[hn]; rfl) rfl z49 ?_
  repeat (refine nst ?_)
  refine z0w [0,65] hk rfl rfl (by rw[hn]; rfl) rfl rfl (by trivial) ⟨rfl,⟨rfl,rfl⟩,(by simp[z0b]),rfl⟩ ?_
  repeat (refine nst ?_)
  refine z0m rfl rfl rfl rfl rfl (by exact vcs) rfl rfl rfl (by rw[z2k]; rfl) (by rw[z3g]; rfl) rfl rfl ?_
  repeat (refine nst ?_)
  exact rt1 []
abbrev z3O (t:z0h):Blk:= .cells [.lf (.v (.int .i64 t.1)),.lf (.v (.int .i64 t.2.1)),.lf (.v (.bool t.2.2))]
theorem ziy (g:FuncId) (l x:List Int) (p q:Nat) (t:z0h) (hg:Ct Tryz.prog g [.c (.ptr 1 0),.c (.ptr 2 0)] [z04 l p,z1c,z3O t] (.tup [.c (.ptr 3 0),lv (.int .i64 0)]) [z04 l q,z1c,z3O t] [z04 x 0]):
  Ct Tryz.prog 127 [.c (.ptr 0 0),.c (.fn (.func g) [] [.ptr 1 0,.ptr 2 0])] [z04 l p,z1c,z3O t] (.tup [.c (.ptr 3 0),lv (.int .i64 0)]) [z04 l q,z1c,z3O t] [z04 x 0]:=by
 refine z00 Tryz.func127 rfl rfl rfl rfl rfl (fun E hn hb=>?_)
 repeat (refine nst ?_)
 refine z1b (z0L (z1J (z1z l p) rfl rfl rfl (by exact vcs) ⟨.inr (.inr ⟨0,0,_,_,rfl,rfl,rfl,rfl⟩),trivial⟩ rfl) rfl) (by rw[hn]; rfl) ?_
 repeat (refine nst ?_)
 refine z0w [0,1,2] hg rfl rfl (by rw[hn]; rfl) rfl rfl (by trivial) ⟨rfl,⟨rfl,rfl,rfl⟩,by simp[z0b],rfl⟩ ?_
 repeat (refine nst ?_)
 refine z06 rfl (by simp) (fun h1=>?_) (fun h1=>?_)
 ·simp at h1
 repeat (refine nst ?_)
 refine z5o [78] rfl (by trivial) ⟨rfl,⟨rfl,rfl,rfl⟩,rfl,rfl⟩ hb rfl (by simp[z0b])
theorem zgD (g:FuncId) (l:List Int) (p q:Nat) (t:z0h) (e:Int) (he:e≠0) (hq:p≤q) (hl:q≤16000000) (hg:Ct Tryz.prog g [.c (.ptr 1 0),.c (.ptr 2 0)] [z04 l p,z1c,z3O t] (.tup [.c (.lf (.v (.pointer none))),lv (.int .i64 e)]) [z04 l q,z1c,z3O t] []):
  Ct Tryz.prog 127 [.c (.ptr 0 0),.c (.fn (.func g) [] [.ptr 1 0,.ptr 2 0])] [z04 l p,z1c,z3O t] (.tup [.c (.lf (.v (.pointer none))),lv (.int .i64 e)]) [z04 l p,z1c,z3O t] []:=by
 have hbk:=z1L l q p hq hl
 refine z00 Tryz.func127 rfl rfl rfl rfl rfl (fun E hn hb=>?_)
 repeat (refine nst ?_)
 refine z1b (z0L (z1J (z1z l p) rfl rfl rfl (by exact vcs) ⟨.inr (.inr ⟨0,0,_,_,rfl,rfl,rfl,rfl⟩),trivial⟩ rfl) rfl) (by rw[hn]; rfl) ?_
 repeat (refine nst ?_)
 refine z0w [0,1,2] hg rfl rfl (by rw[hn]; rfl) rfl rfl (by trivial) ⟨rfl,⟨rfl,rfl,rfl⟩,by simp[z0b],rfl⟩ ?_
 repeat (refine nst ?_)
 refine z06 rfl (by simp) (fun h1=>?_) (fun h1=>?_)
 ·repeat (refine nst ?_)
  refine z0w [0] hbk rfl rfl (by rw[hn]; rfl) rfl rfl (by trivial) ⟨rfl,rfl,(by simp[z0b]),rfl⟩ ?_
  repeat (refine nst ?_)
  refine z5o [] rfl (by trivial) ⟨rfl,⟨rfl,rfl,rfl⟩,trivial,rfl⟩ hb rfl (by simp[z0b])
 ·simp[he] at h1
abbrev z7L (t:z0h):List Cell:= [.lf (.v (.int .i64 t.1)),.lf (.v (.int .i64 t.2.1)),.lf (.v (.bool t.2.2))]
theorem z9F:Tryz.prog.fieldsOf 129= #[{name:= "Class",type:=3,offset:=0,embedded:=false,tag:= "",pkgPath:= "",byteOffset:=0},{name:= "Number",type:=3,offset:=1,embedded:=false,tag:= "",pkgPath:= "",byteOffset:=8},{name:= "Made",type:=4,offset:=2,embedded:=false,tag:= "",pkgPath:= "",byteOffset:=16}]:=by
 rw[Program.fieldsOf,Tryz.underlying129]
theorem zaV:Tryz.prog.eqGuardType Tryz.prog.depth 129=false:=by kernel_rfl
theorem zcp:Tryz.prog.stoodInHeld 129=false:=by kernel_rfl
theorem z9G:Tryz.prog.underlying 129=some (.struct (Tryz.prog.fieldsOf 129)):=by rw[z9F,Tryz.underlying129]
theorem zcq (t u:z0h):zay Tryz.prog (Tryz.prog.fieldsOf 129).toList 0 (z7L t) (z7L u):=by
 rw[z9F]
 exact⟨⟨by decide,rfl,rfl,z3T,_,Tryz.underlying3⟩,⟨by decide,rfl,rfl,z3T,_,Tryz.underlying3⟩,⟨by decide,rfl,zk6,Tryz.underlying4⟩,trivial⟩
theorem eqT (t u:z0h):z2u (z7L t) (z7L u)=decide (t=u):=by
 obtain⟨a,b,c⟩:=t
 obtain⟨d,e,f⟩:=u
 simp only[z2u,Prod.mk.injEq]
 by_cases h1:a=d<;>by_cases h2:b=e<;>by_cases h3:c=f<;>simp[h1,h2,h3]
theorem zkF (l:List Int) (p:Nat) (t:z0h) (hp:p≤l.length) (hl:l.length≤16000000) (hw:WfB l) (he:(z23 l p t).2.2=0):Ct Tryz.prog 128 [.c (.ptr 1 0),.c (.ptr 2 0)] [z04 l p,z1c,z3O t] (.tup [.c (.ptr 3 0),lv (.int .i64 0)]) [z04 l (z23 l p t).2.1,z1c,z3O t] [z04 (z23 l p t).1 0]:=by
 have hr:=z8t l p hp hl hw
 have hle:=z1k l p hp
 have hpos:=z2B l p hw
 generalize hRR:z23 l p t=R at*
 unfold z23 at hRR
 generalize z0d l p=F at*
 have he1:F.2.2=0:=by
  by_cases h:F.2.2=0
  ·exact h
  ·rw[if_neg h] at hRR; subst hRR; exact he
 rw[if_pos he1] at hRR
 have he2:F.1.1=t:=by
  by_cases h:F.1.1=t
  ·exact h
  ·rw[if_neg h] at hRR; subst hRR; simp at he
 rw[if_pos he2] at hRR
 have he3:¬ ((l.length:Int) -(F.2.1:Int))<F.1.2:=by
  intro h
  rw[if_pos h] at hRR; subst hRR; simp at he
 rw[if_neg he3] at hRR
 subst hRR
 obtain⟨n,hn'⟩:∃ n:Nat,F.1.2=(n:Int):=⟨F.1.2.toNat,by omega⟩
 have hs:=zoQ l F.2.1 n (by omega) hl
 rw[hn',Int.toNat_natCast]
 rw[he1] at hr
 refine z00 Tryz.func128 rfl rfl rfl rfl rfl (fun E hn hb=>?_)
 repeat (refine nst ?_)
 refine z0w [0] hr rfl rfl (by rw[hn]; rfl) rfl rfl (by trivial) ⟨rfl,rfl,(by simp[z0b]),rfl⟩ ?_
 repeat (refine nst ?_)
 refine z0E rfl rfl rfl (by rw[hn]; rfl) rfl z49 ?_
 repeat (refine nst ?_)
 refine z0m rfl rfl rfl rfl rfl (by exact vcs) rfl rfl rfl (by rw[z2k]; rfl) (by rw[z3g]; rfl) rfl rfl ?_
 repeat (refine nst ?_)
 refine z06 rfl (by simp) (fun h1=>?_) (fun h1=>?_)
 ·simp at h1
 repeat (refine nst ?_)
 refine z1b (z0L (zaz (neg:=true) (l:=z7L F.1.1) (m:=z7L t) rfl z9G zcp (by first | rfl |(rw[z1f]; rfl)) (by first | rfl |(rw[z1f]; rfl)) (by trivial) zaV (zcq _ _)) rfl) (by rw[hn]; rfl) ?_
 rw[eqT,decide_eq_true he2]
 repeat (refine nst ?_)
 refine z06 rfl (by simp) (fun h2=>?_) (fun h2=>?_)
 ·simp at h2
 repeat (refine nst ?_)
 rw[hn']
 refine z0w [0] hs rfl rfl (by rw[hn]; rfl) rfl rfl (by trivial) ⟨rfl,rfl,(by simp[z0b]),rfl⟩ ?_
 repeat (refine nst ?_)
 refine z5o [85] rfl (by trivial) ⟨rfl,⟨rfl,rfl,rfl⟩,rfl,rfl⟩ hb rfl (by simp[z0b])
theorem ziz (l:List Int) (p:Nat) (t:z0h) (hp:p≤l.length) (hl:l.length≤16000000) (hw:WfB l) (he:¬ (z23 l p t).2.2=0):Ct Tryz.prog 128 [.c (.ptr 1 0),.c (.ptr 2 0)] [z04 l p,z1c,z3O t] (.tup [.c (.lf (.v (.pointer none))),lv (.int .i64 (z23 l p t).2.2)]) [z04 l (z23 l p t).2.1,z1c,z3O t] []:=by
 have hr:=z8t l p hp hl hw
 have hle:=z1k l p hp
 have hpos:=z2B l p hw
 have hst:¬ (z0d l p).2.2=0→(z0d l p).2.1=p:=z72 _ _ _
 generalize hRR:z23 l p t=R at*
 unfold z23 at hRR
 generalize z0d l p=F at*
 refine z00 Tryz.func128 rfl rfl rfl rfl rfl (fun E hn hb=>?_)
 repeat (refine nst ?_)
 refine z0w [0] hr rfl rfl (by rw[hn]; rfl) rfl rfl (by trivial) ⟨rfl,rfl,(by simp[z0b]),rfl⟩ ?_
 repeat (refine nst ?_)
 refine z0E rfl rfl rfl (by rw[hn]; rfl) rfl z49 ?_
 repeat (refine nst ?_)
 refine z0m rfl rfl rfl rfl rfl (by exact vcs) rfl rfl rfl (by rw[z2k]; rfl) (by rw[z3g]; rfl) rfl rfl ?_
 repeat (refine nst ?_)
 refine z06 rfl (by simp) (fun h1=>?_) (fun h1=>?_)
 ·have he1:¬ F.2.2=0:=by simpa using h1
  rw[if_neg he1] at hRR
  subst hRR
  rw[hst he1]
  repeat (refine nst ?_)
  refine z5o [] rfl (by trivial) ⟨rfl,⟨rfl,rfl,rfl⟩,trivial,rfl⟩ hb rfl (by simp[z0b])
 ·have he1:F.2.2=0:=by simpa using h1
  rw[if_pos he1] at hRR
  repeat (refine nst ?_)
  refine z1b (z0L (zaz (neg:=true) (l:=z7L F.1.1) (m:=z7L t) rfl z9G zcp (by first | rfl |(rw[z1f]; rfl)) (by first | rfl |(rw[z1f]; rfl)) (by trivial) zaV (zcq _ _)) rfl) (by rw[hn]; rfl) ?_
  rw[eqT]
  repeat (refine nst ?_)
  refine z06 rfl (by simp) (fun h2=>?_) (fun h2=>?_)
  ·have he2:¬ F.1.1=t:=by simpa using h2
   rw[if_neg he2] at hRR
   subst hRR
   repeat (refine nst ?_)
   refine z5o [] rfl (by trivial) ⟨rfl,⟨rfl,rfl,rfl⟩,trivial,rfl⟩ hb rfl (by simp[z0b])
  ·have he2:F.1.1=t:=by simpa using h2
   rw[if_pos he2] at hRR
   have he3:((l.length:Int) -(F.2.1:Int))<F.1.2:=by
    by_cases h:((l.length:Int) -(F.2.1:Int))<F.1.2
    ·exact h
    ·rw[if_neg h] at hRR; subst hRR; simp at he
   rw[if_pos he3] at hRR
   subst hRR
   have hs:=zkn l F.2.1 F.1.2 hpos.1 hle.2 he3 hl
   repeat (refine nst ?_)
   refine z0w [0] hs rfl rfl (by rw[hn]; rfl) rfl rfl (by trivial) ⟨rfl,rfl,(by simp[z0b]),rfl⟩ ?_
   repeat (refine nst ?_)
   refine z5o [] rfl (by trivial) ⟨rfl,⟨rfl,rfl,rfl⟩,trivial,rfl⟩ hb rfl (by simp[z0b])
theorem z26 (l:List Int) (p:Nat) (t:z0h) (hp:p≤l.length) (hl:l.length≤16000000) (hw:WfB l) (he:(z0r l p t).2.2=0):Ct Tryz.prog 62 [.c (.ptr 0 0),z2c t] [z04 l p] (.tup [.c (.ptr 1 0),lv (.int .i64 0)]) [z04 l (z0r l p t).2.1] [z04 (z0r l p t).1 0]:=by
 have he1:(z23 l p t).2.2=0:=by
  by_cases h:(z23 l p t).2.2=0
  ·exact h
  ·unfold z0r at he; rw[z3k _ _ _ h] at he; exact absurd he h
 have hr:=zkF l p t hp hl hw he1
 have e:z0r l p t=z23 l p t:=z34 _ _ _ he1
 rw[e]
 have hk:=ziy 128 l (z23 l p t).1 p (z23 l p t).2.1 t hr
 generalize z23 l p t=R at*
 refine z00 Tryz.func62 rfl rfl rfl rfl rfl (fun E hn hb=>?_)
 repeat (refine nst ?_)
 refine z1v rfl rfl rfl (by rw[hn]; rfl) rfl (by exact vcs) rfl rfl ?_
 repeat (refine nst ?_)
 refine z1v rfl rfl rfl (by rw[hn]; rfl) rfl (by exact vcs) rfl rfl ?_
 repeat (refine nst ?_)
 refine z0w [0,66,67] hk rfl rfl (by rw[hn]; rfl) rfl rfl (by trivial) ⟨rfl,⟨rfl,rfl,rfl⟩,by simp[z0b],rfl⟩ ?_
 repeat (refine nst ?_)
 exact rt1 [72]
theorem z2s (l:List Int) (p:Nat) (t:z0h) (hp:p≤l.length) (hl:l.length≤16000000) (hw:WfB l) (he:¬ (z0r l p t).2.2=0):Ct Tryz.prog 62 [.c (.ptr 0 0),z2c t] [z04 l p] (.tup [.c (.lf (.v (.pointer none))),lv (.int .i64 (z0r l p t).2.2)]) [z04 l p] []:=by
 have he1:¬ (z23 l p t).2.2=0:=by
  intro h
  unfold z0r at he; rw[z34 _ _ _ h] at he; exact he h
 have hr:=ziz l p t hp hl hw he1
 have hle:=zeC l p t hp
 have e:z0r l p t=([],p,(z23 l p t).2.2):=z3k _ _ _ he1
 rw[e]
 have hk:=zgD 128 l p (z23 l p t).2.1 t (z23 l p t).2.2 he1 hle.1 (by omega) hr
 generalize z23 l p t=R at*
 refine z00 Tryz.func62 rfl rfl rfl rfl rfl (fun E hn hb=>?_)
 repeat (refine nst ?_)
 refine z1v rfl rfl rfl (by rw[hn]; rfl) rfl (by exact vcs) rfl rfl ?_
 repeat (refine nst ?_)
 refine z1v rfl rfl rfl (by rw[hn]; rfl) rfl (by exact vcs) rfl rfl ?_
 repeat (refine nst ?_)
 refine z0w [0,66,67] hk rfl rfl (by rw[hn]; rfl) rfl rfl (by trivial) ⟨rfl,⟨rfl,rfl,rfl⟩,by simp[z0b],rfl⟩ ?_
 repeat (refine nst ?_)
 exact rt1 []
end Go.Proofs.YtaagjnlkinojcaaGreat

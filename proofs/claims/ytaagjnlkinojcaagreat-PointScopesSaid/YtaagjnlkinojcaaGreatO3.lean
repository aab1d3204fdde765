/-
  Chapter 04, its smaller functions. The conditions: rows of at most a million numbers.
-/
import Derived.Test.YtaagjnlkinojcaaGreatC5
import Derived.Test.YtaagjnlkinojcaaGreatSxN
import Derived.Lib.Builder
import Derived.Lib.AppendStr
import Derived.Lib.UnsafeStr
import Derived.Laws.Externs
import Derived.Test.YtaagjnlkinojcaaGreatTy
namespace Go.Proofs.YtaagjnlkinojcaaGreat
set_option linter.unusedSimpArgs false
set_option linter.unusedVariables false
open Go.Sx
set_option maxRecDepth 10000
abbrev frA (f:z0g×Int):Av:= .agg [.lf (.v (.int .i64 f.1.1)),.lf (.v (.int .i64 f.1.2.1)),.lf (.v (.bool f.1.2.2)),.lf (.v (.int .i64 f.2))]
abbrev frE (f:z0g×Int) (e:Int):Av:= .tup [frA f,lv (.int .i64 e)]
theorem z7n {α:Type} (z:α) (p:Nat) (r:α×Nat×Int) (h:¬ (z0M z p r).2.2=0):(z0M z p r).2.1=p:=by
 unfold z0M at h ⊢
 split
 ·rename_i h2
  rw[if_pos h2] at h
  exact absurd h2 h
 ·rfl
theorem zj7 (g:FuncId) (l:List Int) (p q:Nat) (t:z0g×Int) (hg:Ct Tryz.prog g [.c (.ptr 1 0)] [z05 l p,z1c] (frE t 0) [z05 l q,z1c] []):
  Ct Tryz.prog 173 [.c (.ptr 0 0),.c (.fn (.func g) [] [.ptr 1 0])] [z05 l p,z1c] (frE t 0) [z05 l q,z1c] []:=by
 refine z00 Tryz.func173 rfl rfl rfl rfl rfl (fun E hn hb=>?_)
 repeat (refine nst ?_)
 refine z0B rfl rfl rfl (by rw[hn]; rfl) rfl z4c ?_
 repeat (refine nst ?_)
 refine z0W (z0E (z1F (z1W l p) rfl rfl rfl (by exact vcs) ⟨.inr (.inr ⟨0,0,_,_,rfl,rfl,rfl,rfl⟩),trivial⟩ rfl) rfl) (by rw[hn]; rfl) ?_
 repeat (refine nst ?_)
 refine z0w [0,1] hg rfl rfl (by rw[hn]; rfl) rfl rfl (by trivial) ⟨rfl,⟨rfl,rfl⟩,(by simp[z0e]),rfl⟩ ?_
 repeat (refine nst ?_)
 refine z0B rfl rfl rfl (by rw[hn]; rfl) rfl z4c ?_
 repeat (refine nst ?_)
 refine z0k rfl rfl rfl rfl rfl (by exact vcs) rfl rfl rfl (by rw[z2e]; rfl) (by rw[z3h]; rfl) rfl rfl ?_
 repeat (refine nst ?_)
 refine z06 rfl (by simp) (fun h1=>?_) (fun h1=>?_)
 ·simp at h1
 repeat (refine nst ?_)
 refine z0k rfl rfl rfl rfl rfl (by exact vcs) rfl rfl rfl (by rw[z2e]; rfl) (by rw[z3h]; rfl) rfl rfl ?_
 repeat (refine nst ?_)
 exact rt1 []
theorem zh3 (g:FuncId) (l:List Int) (p q:Nat) (t:z0g×Int) (e:Int) (he:e≠0) (hq:p≤q) (hl:q≤16000000) (hg:Ct Tryz.prog g [.c (.ptr 1 0)] [z05 l p,z1c] (frE t e) [z05 l q,z1c] []):
  Ct Tryz.prog 173 [.c (.ptr 0 0),.c (.fn (.func g) [] [.ptr 1 0])] [z05 l p,z1c] (frE (z2R,0) e) [z05 l p,z1c] []:=by
 have hbk:=z24 l q p hq hl
 refine z00 Tryz.func173 rfl rfl rfl rfl rfl (fun E hn hb=>?_)
 repeat (refine nst ?_)
 refine z0B rfl rfl rfl (by rw[hn]; rfl) rfl z4c ?_
 repeat (refine nst ?_)
 refine z0W (z0E (z1F (z1W l p) rfl rfl rfl (by exact vcs) ⟨.inr (.inr ⟨0,0,_,_,rfl,rfl,rfl,rfl⟩),trivial⟩ rfl) rfl) (by rw[hn]; rfl) ?_
 repeat (refine nst ?_)
 refine z0w [0,1] hg rfl rfl (by rw[hn]; rfl) rfl rfl (by trivial) ⟨rfl,⟨rfl,rfl⟩,(by simp[z0e]),rfl⟩ ?_
 repeat (refine nst ?_)
 refine z0B rfl rfl rfl (by rw[hn]; rfl) rfl z4c ?_
 repeat (refine nst ?_)
 refine z0k rfl rfl rfl rfl rfl (by exact vcs) rfl rfl rfl (by rw[z2e]; rfl) (by rw[z3h]; rfl) rfl rfl ?_
 repeat (refine nst ?_)
 refine z06 rfl (by simp) (fun h1=>?_) (fun h1=>?_)
 ·repeat (refine nst ?_)
  refine z0B rfl rfl rfl (by rw[hn]; rfl) rfl z4c ?_
  repeat (refine nst ?_)
  refine z0w [0] hbk rfl rfl (by rw[hn]; rfl) rfl rfl (by trivial) ⟨rfl,rfl,(by simp[z0e]),rfl⟩ ?_
  repeat (refine nst ?_)
  refine z0k rfl rfl rfl rfl rfl (by exact vcs) rfl rfl rfl (by rw[z2e]; rfl) (by rw[z3h]; rfl) rfl rfl ?_
  repeat (refine nst ?_)
  exact rt1 []
 ·simp[he] at h1
theorem zkR (l:List Int) (p:Nat) (hp:p≤l.length) (hl:l.length≤16000000) (hw:WfB l):Ct Tryz.prog 174 [.c (.ptr 1 0)] [z05 l p,z1c] (frE (z33 l p).1 (z33 l p).2.2) [z05 l (z33 l p).2.1,z1c] []:=by
 have ht:=zfH l p hp hl hw
 have hnl:=zfF l (z0S l p).2.1 (z8H l p hp).2 hl hw
 have hst:¬ (z0S l p).2.2=0→(z0S l p).2.1=p:=z7n _ _ _
 generalize hRR:z33 l p=R
 unfold z33 at hRR
 generalize z0S l p=T at*
 generalize lenP l T.2.1=N at*
 refine z00 Tryz.func174 rfl rfl rfl rfl rfl (fun E hn hb=>?_)
 repeat (refine nst ?_)
 refine z0B rfl rfl rfl (by rw[hn]; rfl) rfl z4c ?_
 repeat (refine nst ?_)
 refine z0w [0] ht rfl rfl (by rw[hn]; rfl) rfl rfl (by trivial) ⟨rfl,rfl,(by simp[z0e]),rfl⟩ ?_
 repeat (refine nst ?_)
 refine z0B rfl rfl rfl (by rw[hn]; rfl) rfl z3T ?_
 repeat (refine nst ?_)
 refine z0k rfl rfl rfl rfl rfl (by exact vcs) rfl rfl rfl (by rw[z1e]; rfl) (by rw[z2C]; rfl) rfl rfl ?_
 repeat (refine nst ?_)
 refine z06 rfl (by simp) (fun h1=>?_) (fun h1=>?_)
 ·have h1':¬ T.2.2=0:=by simpa using h1
  rw[if_neg h1'] at hRR
  subst hRR
  rw[hst h1']
  repeat (refine nst ?_)
  refine z0k rfl rfl rfl rfl rfl (by exact vcs) rfl rfl rfl (by rw[z2e]; rfl) (by rw[z3h]; rfl) rfl rfl ?_
  repeat (refine nst ?_)
  exact rt1 []
 ·have h1':T.2.2=0:=by simpa using h1
  rw[if_pos h1'] at hRR
  subst hRR
  repeat (refine nst ?_)
  refine z0w [0] hnl rfl rfl (by rw[hn]; rfl) rfl rfl (by trivial) ⟨rfl,rfl,(by simp[z0e]),rfl⟩ ?_
  repeat (refine nst ?_)
  refine z0k rfl rfl rfl rfl rfl (by exact vcs) rfl rfl rfl (by rw[z2e]; rfl) (by rw[z3h]; rfl) rfl rfl ?_
  repeat (refine nst ?_)
  exact rt1 []
theorem z8F (l:List Int) (p:Nat) (hp:p≤l.length) (hl:l.length≤16000000) (hw:WfB l):Ct Tryz.prog 129 [.c (.ptr 0 0)] [z05 l p] (frE (z0a l p).1 (z0a l p).2.2) [z05 l (z0a l p).2.1] []:=by
 have hr:=zkR l p hp hl hw
 have hle:=zer l p hp
 generalize hRR:z0a l p=R
 unfold z0a at hRR
 by_cases he:(z33 l p).2.2=0
 ·rw[z2s _ _ _ he] at hRR
  rw[hRR] at hr he hle
  rw[he] at hr ⊢
  have hk:=zj7 174 l p R.2.1 R.1 hr
  refine z00 Tryz.func129 rfl rfl rfl rfl rfl (fun E hn hb=>?_)
  repeat (refine nst ?_)
  refine z1q rfl rfl rfl (by rw[hn]; rfl) rfl (by exact vcs) rfl rfl ?_
  repeat (refine nst ?_)
  refine z0B rfl rfl rfl (by rw[hn]; rfl) rfl z4c ?_
  repeat (refine nst ?_)
  refine z0w [0,65] hk rfl rfl (by rw[hn]; rfl) rfl rfl (by trivial) ⟨rfl,⟨rfl,rfl⟩,(by simp[z0e]),rfl⟩ ?_
  repeat (refine nst ?_)
  refine z0k rfl rfl rfl rfl rfl (by exact vcs) rfl rfl rfl (by rw[z2e]; rfl) (by rw[z3h]; rfl) rfl rfl ?_
  repeat (refine nst ?_)
  exact rt1 []
 ·rw[z1v _ _ _ he] at hRR
  subst hRR
  generalize z33 l p=R at*
  have hk:=zh3 174 l p R.2.1 R.1 R.2.2 he hle.1 (by omega) hr
  refine z00 Tryz.func129 rfl rfl rfl rfl rfl (fun E hn hb=>?_)
  repeat (refine nst ?_)
  refine z1q rfl rfl rfl (by rw[hn]; rfl) rfl (by exact vcs) rfl rfl ?_
  repeat (refine nst ?_)
  refine z0B rfl rfl rfl (by rw[hn]; rfl) rfl z4c ?_
  repeat (refine nst ?_)
  refine z0w [0,65] hk rfl rfl (by rw[hn]; rfl) rfl rfl (by trivial) ⟨rfl,⟨rfl,rfl⟩,(by simp[z0e]),rfl⟩ ?_
  repeat (refine nst ?_)
  refine z0k rfl rfl rfl rfl rfl (by exact vcs) rfl rfl rfl (by rw[z2e]; rfl) (by rw[z3h]; rfl) rfl rfl ?_
  repeat (refine nst ?_)
  exact rt1 []
abbrev z3O (t:z0g):Blk:= .cells [.lf (.v (.int .i64 t.1)),.lf (.v (.int .i64 t.2.1)),.lf (.v (.bool t.2.2))]
theorem zj8 (g:FuncId) (l x:List Int) (p q:Nat) (t:z0g) (hg:Ct Tryz.prog g [.c (.ptr 1 0),.c (.ptr 2 0)] [z05 l p,z1c,z3O t] (.tup [.c (.ptr 3 0),lv (.int .i64 0)]) [z05 l q,z1c,z3O t] [z05 x 0]):
  Ct Tryz.prog 127 [.c (.ptr 0 0),.c (.fn (.func g) [] [.ptr 1 0,.ptr 2 0])] [z05 l p,z1c,z3O t] (.tup [.c (.ptr 3 0),lv (.int .i64 0)]) [z05 l q,z1c,z3O t] [z05 x 0]:=by
 refine z00 Tryz.func127 rfl rfl rfl rfl rfl (fun E hn hb=>?_)
 repeat (refine nst ?_)
 refine z0W (z0E (z1F (z1W l p) rfl rfl rfl (by exact vcs) ⟨.inr (.inr ⟨0,0,_,_,rfl,rfl,rfl,rfl⟩),trivial⟩ rfl) rfl) (by rw[hn]; rfl) ?_
 repeat (refine nst ?_)
 refine z0w [0,1,2] hg rfl rfl (by rw[hn]; rfl) rfl rfl (by trivial) ⟨rfl,⟨rfl,rfl,rfl⟩,by simp[z0e],rfl⟩ ?_
 repeat (refine nst ?_)
 refine z06 rfl (by simp) (fun h1=>?_) (fun h1=>?_)
 ·simp at h1
 repeat (refine nst ?_)
 refine z5e [78] rfl (by trivial) ⟨rfl,⟨rfl,rfl,rfl⟩,rfl,rfl⟩ hb rfl (by simp[z0e])
theorem zh4 (g:FuncId) (l:List Int) (p q:Nat) (t:z0g) (e:Int) (he:e≠0) (hq:p≤q) (hl:q≤16000000) (hg:Ct Tryz.prog g [.c (.ptr 1 0),.c (.ptr 2 0)] [z05 l p,z1c,z3O t] (.tup [.c (.lf (.v (.pointer none))),lv (.int .i64 e)]) [z05 l q,z1c,z3O t] []):
  Ct Tryz.prog 127 [.c (.ptr 0 0),.c (.fn (.func g) [] [.ptr 1 0,.ptr 2 0])] [z05 l p,z1c,z3O t] (.tup [.c (.lf (.v (.pointer none))),lv (.int .i64 e)]) [z05 l p,z1c,z3O t] []:=by
 have hbk:=z24 l q p hq hl
 refine z00 Tryz.func127 rfl rfl rfl rfl rfl (fun E hn hb=>?_)
 repeat (refine nst ?_)
 refine z0W (z0E (z1F (z1W l p) rfl rfl rfl (by exact vcs) ⟨.inr (.inr ⟨0,0,_,_,rfl,rfl,rfl,rfl⟩),trivial⟩ rfl) rfl) (by rw[hn]; rfl) ?_
 repeat (refine nst ?_)
 refine z0w [0,1,2] hg rfl rfl (by rw[hn]; rfl) rfl rfl (by trivial) ⟨rfl,⟨rfl,rfl,rfl⟩,by simp[z0e],rfl⟩ ?_
 repeat (refine nst ?_)
 refine z06 rfl (by simp) (fun h1=>?_) (fun h1=>?_)
 ·repeat (refine nst ?_)
  refine z0w [0] hbk rfl rfl (by rw[hn]; rfl) rfl rfl (by trivial) ⟨rfl,rfl,(by simp[z0e]),rfl⟩ ?_
  repeat (refine nst ?_)
  refine z5e [] rfl (by trivial) ⟨rfl,⟨rfl,rfl,rfl⟩,trivial,rfl⟩ hb rfl (by simp[z0e])
 ·simp[he] at h1
abbrev z0L (t:z0g):List Cell:= [.lf (.v (.int .i64 t.1)),.lf (.v (.int .i64 t.2.1)),.lf (.v (.bool t.2.2))]
theorem za5:Tryz.prog.fieldsOf 129= #[{name:= "Class",type:=3,offset:=0,embedded:=false,tag:= "",pkgPath:= "",byteOffset:=0},{name:= "Number",type:=3,offset:=1,embedded:=false,tag:= "",pkgPath:= "",byteOffset:=8},{name:= "Made",type:=4,offset:=2,embedded:=false,tag:= "",pkgPath:= "",byteOffset:=16}]:=by
 rw[Program.fieldsOf,Tryz.underlying129]
theorem zbo:Tryz.prog.eqGuardType Tryz.prog.depth 129=false:=by kernel_rfl
theorem zcZ:Tryz.prog.stoodInHeld 129=false:=by kernel_rfl
theorem za6:Tryz.prog.underlying 129=some (.struct (Tryz.prog.fieldsOf 129)):=by rw[za5,Tryz.underlying129]
theorem zd0 (t u:z0g):z9m Tryz.prog (Tryz.prog.fieldsOf 129).toList 0 (z0L t) (z0L u):=by
 rw[za5]
 exact⟨⟨by decide,rfl,rfl,z36,_,Tryz.underlying3⟩,⟨by decide,rfl,rfl,z36,_,Tryz.underlying3⟩,⟨by decide,rfl,zds,Tryz.underlying4⟩,trivial⟩
theorem za7:Tryz.prog.fieldsOf 101= #[{name:= "Class",type:=3,offset:=0,embedded:=false,tag:= "",pkgPath:= "",byteOffset:=0},{name:= "Number",type:=3,offset:=1,embedded:=false,tag:= "",pkgPath:= "",byteOffset:=8},{name:= "Made",type:=4,offset:=2,embedded:=false,tag:= "",pkgPath:= "",byteOffset:=16}]:=by
 rw[Program.fieldsOf,Tryz.underlying101]
theorem zh5:Tryz.prog.eqGuardType Tryz.prog.depth 101=false:=by kernel_rfl
theorem zj9:Tryz.prog.stoodInHeld 101=false:=by kernel_rfl
theorem zfC:Tryz.prog.underlying 101=some (.struct (Tryz.prog.fieldsOf 101)):=by rw[za7,Tryz.underlying101]
theorem zja (t u:z0g):z9m Tryz.prog (Tryz.prog.fieldsOf 101).toList 0 (z0L t) (z0L u):=by
 rw[za7]
 exact⟨⟨by decide,rfl,rfl,z36,_,Tryz.underlying3⟩,⟨by decide,rfl,rfl,z36,_,Tryz.underlying3⟩,⟨by decide,rfl,zds,Tryz.underlying4⟩,trivial⟩
theorem eqT (t u:z0g):z16 (z0L t) (z0L u)=decide (t=u):=by
 obtain⟨a,b,c⟩:=t
 obtain⟨d,e,f⟩:=u
 simp only[z16,Prod.mk.injEq]
 by_cases h1:a=d<;>by_cases h2:b=e<;>by_cases h3:c=f<;>simp[h1,h2,h3]
theorem zkS (l:List Int) (p:Nat) (t:z0g) (hp:p≤l.length) (hl:l.length≤16000000) (hw:WfB l) (he:(z20 l p t).2.2=0):Ct Tryz.prog 128 [.c (.ptr 1 0),.c (.ptr 2 0)] [z05 l p,z1c,z3O t] (.tup [.c (.ptr 3 0),lv (.int .i64 0)]) [z05 l (z20 l p t).2.1,z1c,z3O t] [z05 (z20 l p t).1 0]:=by
 have hr:=z8F l p hp hl hw
 have hle:=z17 l p hp
 have hpos:=z1V l p hw
 generalize hRR:z20 l p t=R at*
 unfold z20 at hRR
 generalize z0a l p=F at*
 have he1:F.2.2=0:=by
  by_cases h:F.2.2=0
  ·exact h
  ·rw[if_neg h] at hRR; subst hRR; exact he
 rw[if_pos he1] at hRR
 have he2:F.1.1=t:=by
  by_cases h:F.1.1=t
  ·exact h
  ·rw[if_neg h] at hRR; subst hRR; simp at he
 rw[if_pos he2] at hRR
 have he3:¬ ((l.length:Int) -(F.2.1:Int))<F.1.2:=by
  intro h
  rw[if_pos h] at hRR; subst hRR; simp at he
 rw[if_neg he3] at hRR
 subst hRR
 obtain⟨n,hn'⟩:∃ n:Nat,F.1.2=(n:Int):=⟨F.1.2.toNat,by omega⟩
 have hs:=zoJ l F.2.1 n (by omega) hl
 rw[hn',Int.toNat_natCast]
 rw[he1] at hr
 refine z00 Tryz.func128 rfl rfl rfl rfl rfl (fun E hn hb=>?_)
 repeat (refine nst ?_)
 refine z0w [0] hr rfl rfl (by rw[hn]; rfl) rfl rfl (by trivial) ⟨rfl,rfl,(by simp[z0e]),rfl⟩ ?_
 repeat (refine nst ?_)
 refine z0B rfl rfl rfl (by rw[hn]; rfl) rfl z4c ?_
 repeat (refine nst ?_)
 refine z0k rfl rfl rfl rfl rfl (by exact vcs) rfl rfl rfl (by rw[z2e]; rfl) (by rw[z3h]; rfl) rfl rfl ?_
 repeat (refine nst ?_)
 refine z06 rfl (by simp) (fun h1=>?_) (fun h1=>?_)
 ·simp at h1
 repeat (refine nst ?_)
 refine z0W (z0E (z8G (neg:=true) (l:=z0L F.1.1) (m:=z0L t) rfl za6 zcZ (by first | rfl |(rw[z1e]; rfl)) (by first | rfl |(rw[z1e]; rfl)) (by trivial) zbo (zd0 _ _)) rfl) (by rw[hn]; rfl) ?_
 rw[eqT,decide_eq_true he2]
 repeat (refine nst ?_)
 refine z06 rfl (by simp) (fun h2=>?_) (fun h2=>?_)
 ·simp at h2
 repeat (refine nst ?_)
 rw[hn']
 refine z0w [0] hs rfl rfl (by rw[hn]; rfl) rfl rfl (by trivial) ⟨rfl,rfl,(by simp[z0e]),rfl⟩ ?_
 repeat (refine nst ?_)
 refine z5e [85] rfl (by trivial) ⟨rfl,⟨rfl,rfl,rfl⟩,rfl,rfl⟩ hb rfl (by simp[z0e])
theorem zjb (l:List Int) (p:Nat) (t:z0g) (hp:p≤l.length) (hl:l.length≤16000000) (hw:WfB l) (he:¬ (z20 l p t).2.2=0):Ct Tryz.prog 128 [.c (.ptr 1 0),.c (.ptr 2 0)] [z05 l p,z1c,z3O t] (.tup [.c (.lf (.v (.pointer none))),lv (.int .i64 (z20 l p t).2.2)]) [z05 l (z20 l p t).2.1,z1c,z3O t] []:=by
 have hr:=z8F l p hp hl hw
 have hle:=z17 l p hp
 have hpos:=z1V l p hw
 have hst:¬ (z0a l p).2.2=0→(z0a l p).2.1=p:=z7n _ _ _
 generalize hRR:z20 l p t=R at*
 unfold z20 at hRR
 generalize z0a l p=F at*
 refine z00 Tryz.func128 rfl rfl rfl rfl rfl (fun E hn hb=>?_)
 repeat (refine nst ?_)
 refine z0w [0] hr rfl rfl (by rw[hn]; rfl) rfl rfl (by trivial) ⟨rfl,rfl,(by simp[z0e]),rfl⟩ ?_
 repeat (refine nst ?_)
 refine z0B rfl rfl rfl (by rw[hn]; rfl) rfl z4c ?_
 repeat (refine nst ?_)
 refine z0k rfl rfl rfl rfl rfl (by exact vcs) rfl rfl rfl (by rw[z2e]; rfl) (by rw[z3h]; rfl) rfl rfl ?_
 repeat (refine nst ?_)
 refine z06 rfl (by simp) (fun h1=>?_) (fun h1=>?_)
 ·have he1:¬ F.2.2=0:=by simpa using h1
  rw[if_neg he1] at hRR
  subst hRR
  rw[hst he1]
  repeat (refine nst ?_)
  refine z5e [] rfl (by trivial) ⟨rfl,⟨rfl,rfl,rfl⟩,trivial,rfl⟩ hb rfl (by simp[z0e])
 ·have he1:F.2.2=0:=by simpa using h1
  rw[if_pos he1] at hRR
  repeat (refine nst ?_)
  refine z0W (z0E (z8G (neg:=true) (l:=z0L F.1.1) (m:=z0L t) rfl za6 zcZ (by first | rfl |(rw[z1e]; rfl)) (by first | rfl |(rw[z1e]; rfl)) (by trivial) zbo (zd0 _ _)) rfl) (by rw[hn]; rfl) ?_
  rw[eqT]
  repeat (refine nst ?_)
  refine z06 rfl (by simp) (fun h2=>?_) (fun h2=>?_)
  ·have he2:¬ F.1.1=t:=by simpa using h2
   rw[if_neg he2] at hRR
   subst hRR
   repeat (refine nst ?_)
   refine z5e [] rfl (by trivial) ⟨rfl,⟨rfl,rfl,rfl⟩,trivial,rfl⟩ hb rfl (by simp[z0e])
  ·have he2:F.1.1=t:=by simpa using h2
   rw[if_pos he2] at hRR
   have he3:((l.length:Int) -(F.2.1:Int))<F.1.2:=by
    by_cases h:((l.length:Int) -(F.2.1:Int))<F.1.2
    ·exact h
    ·rw[if_neg h] at hRR; subst hRR; simp at he
   rw[if_pos he3] at hRR
   subst hRR
   have hs:=zkh l F.2.1 F.1.2 hpos.1 hle.2 he3 hl
   repeat (refine nst ?_)
   refine z0w [0] hs rfl rfl (by rw[hn]; rfl) rfl rfl (by trivial) ⟨rfl,rfl,(by simp[z0e]),rfl⟩ ?_
   repeat (refine nst ?_)
   refine z5e [] rfl (by trivial) ⟨rfl,⟨rfl,rfl,rfl⟩,trivial,rfl⟩ hb rfl (by simp[z0e])
theorem z2m (l:List Int) (p:Nat) (t:z0g) (hp:p≤l.length) (hl:l.length≤16000000) (hw:WfB l) (he:(z0m l p t).2.2=0):Ct Tryz.prog 62 [.c (.ptr 0 0),z21 t] [z05 l p] (.tup [.c (.ptr 1 0),lv (.int .i64 0)]) [z05 l (z0m l p t).2.1] [z05 (z0m l p t).1 0]:=by
 have he1:(z20 l p t).2.2=0:=by
  by_cases h:(z20 l p t).2.2=0
  ·exact h
  ·unfold z0m at he; rw[z1v _ _ _ h] at he; exact absurd he h
 have hr:=zkS l p t hp hl hw he1
 have e:z0m l p t=z20 l p t:=z2s _ _ _ he1
 rw[e]
 have hk:=zj8 128 l (z20 l p t).1 p (z20 l p t).2.1 t hr
 generalize z20 l p t=R at*
 refine z00 Tryz.func62 rfl rfl rfl rfl rfl (fun E hn hb=>?_)
 repeat (refine nst ?_)
 refine z1q rfl rfl rfl (by rw[hn]; rfl) rfl (by exact vcs) rfl rfl ?_
 repeat (refine nst ?_)
 refine z1q rfl rfl rfl (by rw[hn]; rfl) rfl (by exact vcs) rfl rfl ?_
 repeat (refine nst ?_)
 refine z0w [0,66,67] hk rfl rfl (by rw[hn]; rfl) rfl rfl (by trivial) ⟨rfl,⟨rfl,rfl,rfl⟩,by simp[z0e],rfl⟩ ?_
 repeat (refine nst ?_)
 exact rt1 [72]
theorem z31 (l:List Int) (p:Nat) (t:z0g) (hp:p≤l.length) (hl:l.length≤16000000) (hw:WfB l) (he:¬ (z0m l p t).2.2=0):Ct Tryz.prog 62 [.c (.ptr 0 0),z21 t] [z05 l p] (.tup [.c (.lf (.v (.pointer none))),lv (.int .i64 (z0m l p t).2.2)]) [z05 l p] []:=by
 have he1:¬ (z20 l p t).2.2=0:=by
  intro h
  unfold z0m at he; rw[z2s _ _ _ h] at he; exact he h
 have hr:=zjb l p t hp hl hw he1
 have hle:=zes l p t hp
 have e:z0m l p t=([],p,(z20 l p t).2.2):=z1v _ _ _ he1
 rw[e]
 have hk:=zh4 128 l p (z20 l p t).2.1 t (z20 l p t).2.2 he1 hle.1 (by omega) hr
 generalize z20 l p t=R at*
 refine z00 Tryz.func62 rfl rfl rfl rfl rfl (fun E hn hb=>?_)
 repeat (refine nst ?_)
 refine z1q rfl rfl rfl (by rw[hn]; rfl) rfl (by exact vcs) rfl rfl ?_
 repeat (refine nst ?_)
 refine z1q rfl rfl rfl (by rw[hn]; rfl) rfl (by exact vcs) rfl rfl ?_
 repeat (refine nst ?_)
 refine z0w [0,66,67] hk rfl rfl (by rw[hn]; rfl) rfl rfl (by trivial) ⟨rfl,⟨rfl,rfl,rfl⟩,by simp[z0e],rfl⟩ ?_
 repeat (refine nst ?_)
 exact rt1 []
end Go.Proofs.YtaagjnlkinojcaaGreat
namespace Go.Sx
open Go
set_option linter.unusedVariables false
set_option linter.unusedSimpArgs false
section
variable {P:Program} {E:Env} {ops:Array Oper} {Q:Exit→Act→World→Prop} {rest:List Oper} {o:Oper} {σ:St}
theorem SRb.one {β:Nat→Option Nat} {F:Nat→Prop} {a:Act} {w w':World} {d:Nat} {x:Av} {v:Value} (h:SRb E β F σ a w) (hd:d<E.n) (hx:AvR (fun _=>none) (fun _=>False) w' x v) (hpl:z46 x=true) (hk:Keep E.w0 E.M w')
  (hsz:w.heap.size≤w'.heap.size):SR E (St.of [(d,x)] []) (a.put (some d) v) w':=by
 refine⟨fun i=>if i<E.nb then E.β0 i else none,fun _=>False,fun i=>?_,by simpa[Act.put] using h.sz,h.df,fun j=>?_,fun i j g hi=>?_,fun i g hi=>?_,fun i g e=>?_,fun b hb=>hb.elim,hk,fun i hi=>if_pos hi,h.nbl⟩
 ·have hlt:d<a.tmps.size:=by rw[h.sz]; exact hd
  by_cases hi:i=d
  ·subst hi
   have:=z9z (β':=fun i=>if i<E.nb then E.β0 i else none) (F':=fun _=>False) (w':=w') hpl hx
   simpa[St.of,z5K,Act.put,hlt] using this
  ·have:(St.of [(d,x)] []).tm i= .c .un:=by
    simp only[St.of,z5K]
    split
    ·rename_i e; exact absurd (Nat.eq_of_beq_eq_true e) hi
    ·rfl
   rw[this]
   exact .any _
 ·exact trivial
 ·exact absurd rfl hi
 ·exact absurd rfl hi
 ·by_cases hi:i<E.nb
  ·rw[if_pos hi] at e
   have:=h.lt i g (by rw[h.bb i hi]; exact e)
   omega
  ·rw[if_neg hi] at e; cases e
end
end Go.Sx
namespace Go.Proofs.YtaagjnlkinojcaaGreat
set_option linter.unusedSimpArgs false
set_option linter.unusedVariables false
open Go.Sx
set_option maxRecDepth 10000
abbrev I64 (l:List Int):Av:= .c (.lf (.ints .i64 l))
def inR (x:Int):Bool:=!(decide (x<0)||decide (2147483647<x))
def z0V:List Int→Bool
 | a::b::t=>if 30<t.length then false else if(a::b::t).all inR=false then false else
    if a=0∨a=1 then decide (b<40) else if a=2 then decide (b≤2147483567) else false
 | _=>false
theorem z1J (a b:Int) (t:List Int):z0V (a::b::t)=if 30<t.length then false else if(a::b::t).all inR=false then false else
 if a=0∨a=1 then decide (b<40) else if a=2 then decide (b≤2147483567) else false:=rfl
theorem zeg {l:List Int} {i:Nat} (h:i<l.length) (h1:inR (l.getD i 0)=false):l.all inR=false:=by
 rw[List.all_eq_false]
 refine⟨l[i],List.getElem_mem h,?_⟩
 rw[List.getD_eq_getElem?_getD,List.getElem?_eq_getElem h] at h1
 simpa using h1
theorem zd1 {l:List Int} {i:Nat} (h:i<l.length) (h0:(l.take i).all inR=true) (h1:inR (l.getD i 0)=true):(l.take (i+1)).all inR=true:=by
 rw[List.take_add_one,List.all_append,h0,List.getElem?_eq_getElem h]
 rw[List.getD_eq_getElem?_getD,List.getElem?_eq_getElem h] at h1
 simpa using h1
theorem zbp (o:List Int) (hl:o.length≤16000000):Ct Tryz.prog 241 [I64 o] [] (lv (.bool (z0V o))) [] []:=by
 obtain⟨R,hR⟩:∃ R,z0V o=R:=⟨_,rfl⟩
 rw[hR]
 refine z00 Tryz.func241 rfl rfl rfl rfl rfl (fun E hn hb=>?_)
 repeat (refine nst ?_)
 refine z06 rfl (by simp) (fun hc=>?_) (fun hc=>?_)
 ·have:R=false:=by
   rw[←hR]
   simp at hc
   match o,hc with
   | [],_=>rfl
   | [_],_=>rfl
   | a::b::t,hc=>simp at hc; rw[z1J,if_pos (by omega)]
  subst this
  repeat (refine nst ?_)
  exact rt1 []
 ·have hlen:2≤o.length∧o.length≤32:=by simp at hc; omega
  repeat (refine nst ?_)
  refine z09 (St.le_of (l:= [(0,I64 o),(13,I64 o),(14,lv (.int .i64 (o.length:Int))),(15,lv (.int .i64 ((0:Nat):Int)))]) (h:= []) (by refine⟨?_,?_⟩<;>(repeat' (first | exact trivial | exact rfl | refine⟨?_,?_⟩))<;>first | exact rfl |(simp; done) | skip)) ?_
  refine z0h (ι:= {i:Nat//i≤o.length∧(o.take i).all inR=true}) (fun i=>St.of [(0,I64 o),(13,I64 o),(14,lv (.int .i64 (o.length:Int))),(15,lv (.int .i64 (i.1:Int)))] []) (fun i=>o.length -i.1) (fun i=>?_) ⟨0,by omega,by simp⟩
  obtain⟨i,hi,ha⟩:=i
  dsimp only
  repeat (refine nst ?_)
  refine z06 rfl (by simp) (fun hc=>?_) (fun hc=>?_)
  ·have hi2:i<o.length:=by simpa using hc
   repeat (refine nst ?_)
   refine z06 rfl (by simp) (fun h2=>?_) (fun h2=>?_)
   ·have:R=false:=by
     rw[←hR]
     have hg:=zeg hi2 (by simp[Bool.cond_eq_ite] at h2; simp only[inR,Bool.not_eq_false',Bool.or_eq_true,decide_eq_true_eq]; rw[List.getD_eq_getElem?_getD]; omega)
     match o,hlen,hg with
     | a::b::t,hlen,hg=>rw[z1J,hg]; simp
    subst this
    repeat (refine nst ?_)
    exact rt1 []
   ·repeat (refine nst ?_)
    (refine z07 ?i1 ?i2 ?i3; (case i1=>exact⟨i+1,by omega,zd1 hi2 ha (by simp[Bool.cond_eq_ite] at h2; simp only[inR,Bool.not_eq_true',Bool.or_eq_false_iff,decide_eq_false_iff_not]; rw[List.getD_eq_getElem?_getD]; omega)⟩); (case i2=>(dsimp only; omega)); (case i3=>refine St.le_of ⟨?_,?_⟩<;>(repeat' (first | exact trivial | exact rfl | refine⟨?_,?_⟩))<;>first | exact rfl |(simp; done) | skip))
  ·have:i=o.length:=by simp at hc; omega
   subst this
   rw[List.take_length] at ha
   clear hi
   match o,hlen,ha,hR with
   | a::b::t,hlen,ha,hR=>
   have h30:¬ 30<t.length:=by simp at hlen; omega
   rw[z1J,if_neg h30,ha,if_neg (by simp)] at hR
   repeat (refine nst ?_)
   refine z06 rfl (by simp) (fun h0=>?_) (fun h0=>?_)
   ·have h0':a=0:=by simpa using h0
    rw[if_pos (.inl h0')] at hR
    subst hR
    repeat (refine nst ?_)
    refine z06 rfl (by simp) (fun h1=>?_) (fun h1=>?_)
    ·repeat (refine nst ?_)
     exact rt1 []
    ·rw[h0] at h1; simp at h1
   ·have h0':a≠0:=by simpa using h0
    repeat (refine nst ?_)
    refine z06 rfl (by simp) (fun h1=>?_) (fun h1=>?_)
    ·have h1':a=1:=by simpa using h1
     rw[if_pos (.inr h1')] at hR
     subst hR
     repeat (refine nst ?_)
     exact rt1 []
    ·have h1':a≠1:=by simpa using h1
     rw[if_neg (by omega)] at hR
     repeat (refine nst ?_)
     refine z06 rfl (by simp) (fun h2=>?_) (fun h2=>?_)
     ·have h2':a=2:=by simpa using h2
      rw[if_pos h2'] at hR
      subst hR
      repeat (refine nst ?_)
      exact rt1 []
     ·have h2':a≠2:=by simpa using h2
      rw[if_neg h2'] at hR
      subst hR
      repeat (refine nst ?_)
      exact rt1 []
end Go.Proofs.YtaagjnlkinojcaaGreat

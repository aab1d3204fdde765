/-
  Clock: the next time at a cursor. The conditions: rows of bytes that a machine can hold.
-/
import Derived.Test.YtaagjnlkinojcaaGreatC15
import Derived.Test.YtaagjnlkinojcaaGreatSxX
import Derived.WalkKit
import Derived.ProofKit
import Derived.OpenShut
import Derived.ShutString
import Derived.ChangeOld
import Derived.Below
import Derived.Lib.SmallJoins
import Derived.Test.YtaagjnlkinojcaaGreatC12
import Derived.Test.YtaagjnlkinojcaaGreatC7
import Derived.Test.YtaagjnlkinojcaaGreatSxM
import Derived.Test.YtaagjnlkinojcaaGreatSxQ
namespace Go.Proofs.YtaagjnlkinojcaaGreat
set_option linter.unusedSimpArgs false
set_option linter.unusedVariables false
open Go.Sx
set_option maxRecDepth 10000
def z53 (n:Int):List Int:=(if 16384≤n then [128+n/16384] else [])++(if 128≤n then [128+n/128%128] else [])++ [n%128]
theorem zaG (n:Nat) (h1:31≤n) (h2:n<2097152):z53 (n:Int)=hiL (z0y 128 5 n).reverse:=by
 have e:z0y 128 5 n=((n%128:Nat):Int)::z0y 128 4 (n/128):=by rw[z0y,if_neg (by omega)]
 by_cases a:n<128
 ·have e1:z0y 128 4 (n/128)= []:=by rw[z0y,if_pos (by omega)]
  rw[e,e1]
  simp only[z53,hiL]
  rw[if_neg (by omega),if_neg (by omega)]
  simp
 ·have e1:z0y 128 4 (n/128)=((n/128%128:Nat):Int)::z0y 128 3 (n/128/128):=by rw[z0y,if_neg (by omega)]
  by_cases b:n<16384
  ·have e2:z0y 128 3 (n/128/128)= []:=by rw[z0y,if_pos (by omega)]
   rw[e,e1,e2]
   simp only[z53,hiL]
   rw[if_neg (by omega),if_pos (by omega)]
   simp
   omega
  ·have e2:z0y 128 3 (n/128/128)=((n/128/128%128:Nat):Int)::z0y 128 2 (n/128/128/128):=by rw[z0y,if_neg (by omega)]
   have e3:z0y 128 2 (n/128/128/128)= []:=by rw[z0y,if_pos (by omega)]
   rw[e,e1,e2,e3]
   simp only[z53,hiL]
   rw[if_pos (by omega),if_pos (by omega)]
   simp
   omega
def z2E (n:Int):List Int:=
 if n<128 then [n] else if n<256 then [129,n] else if n<65536 then [130,n/256,n%256] else if n<16777216 then [131,n/65536,n/256%256,n%256]
 else [132,n/16777216,n/65536%256,n/256%256,n%256]
theorem z8d (n:Nat) (h:n≤16777216):z2E (n:Int)=z0I n:=by
 unfold z2E z0I
 by_cases a:n<128
 ·rw[if_pos (by omega),if_pos a]
 rw[if_neg (by omega),if_neg a]
 have e:z0y 256 5 n=((n%256:Nat):Int)::z0y 256 4 (n/256):=by rw[z0y,if_neg (by omega)]
 by_cases b:n<256
 ·have e1:z0y 256 4 (n/256)= []:=by rw[z0y,if_pos (by omega)]
  rw[e,e1,if_pos (by omega)]
  simp
  omega
 rw[if_neg (by omega)]
 have e1:z0y 256 4 (n/256)=((n/256%256:Nat):Int)::z0y 256 3 (n/256/256):=by rw[z0y,if_neg (by omega)]
 by_cases c:n<65536
 ·have e2:z0y 256 3 (n/256/256)= []:=by rw[z0y,if_pos (by omega)]
  rw[e,e1,e2,if_pos (by omega)]
  simp
  omega
 rw[if_neg (by omega)]
 have e2:z0y 256 3 (n/256/256)=((n/256/256%256:Nat):Int)::z0y 256 2 (n/256/256/256):=by rw[z0y,if_neg (by omega)]
 by_cases d:n<16777216
 ·have e3:z0y 256 2 (n/256/256/256)= []:=by rw[z0y,if_pos (by omega)]
  rw[e,e1,e2,e3,if_pos (by omega)]
  simp
  omega
 rw[if_neg (by omega)]
 have hn:n=16777216:=by omega
 subst hn
 decide
set_option maxHeartbeats 4000000 in
theorem zdt (t:z0h) (h:z0q t=true):Ct Tryz.prog 105 [z2c t] [] (.c (.own 0 1 0 (tgL t).length)) [] [.row (.ints .u8 (tgL t))]:=by
 have h2:0≤t.2.1∧t.2.1<2097152:=by simp[z0q] at h; omega
 have h4:0≤t.1∧t.1≤3:=by simp[z0q] at h; omega
 have hfm:=z67 h
 have hfi:0≤z1h t∧z1h t≤224:=by
  simp only[List.mem_cons,List.not_mem_nil,or_false] at hfm
  omega
 have hT:tgL t=if t.2.1<31 then [z1h t+t.2.1] else(z1h t+31)::hiL (z0y 128 5 t.2.1.toNat).reverse:=rfl
 have hF:z1h t=64*t.1+cond t.2.2 32 0:=rfl
 generalize tgL t=T at*
 generalize z1h t=c at*
 refine z00 Tryz.func105 rfl rfl rfl rfl rfl (fun E hn hb=>?_)
 repeat (refine nst ?_)
 refine z1v rfl rfl rfl (by rw[hn]; rfl) rfl (by exact vcs) rfl rfl ?_
 repeat (refine nst ?_)
 refine z81 (St.of [(1,.c (.ptr 65 0)),(3,lv (.int .i64 c))] [(65,z3O t)]) ?_ ?_
 ·refine z06 rfl (by simp) (fun h1=>?_) (fun h1=>?_)
  ·have h1':t.2.2=true:=h1
   rw[h1'] at hF
   rw[hF]
   repeat (refine nst ?_)
   (refine z47 ?_; refine St.le_of ⟨?_,?_⟩<;>(repeat' (first | exact trivial | exact rfl | refine⟨?_,?_⟩))<;>first | exact rfl |(simp; done) | skip)
  ·have h1':t.2.2=false:=h1
   rw[h1'] at hF
   have e':c=64*t.1:=by rw[hF]; exact Int.add_zero _
   rw[e']
   repeat (refine nst ?_)
   (refine z47 ?_; refine St.le_of ⟨?_,?_⟩<;>(repeat' (first | exact trivial | exact rfl | refine⟨?_,?_⟩))<;>first | exact rfl |(simp; done) | skip)
 repeat (refine nst ?_)
 refine z06 rfl (by simp) (fun h3=>?_) (fun h3=>?_)
 ·have h3':t.2.1<31:=by simpa using h3
  rw[if_pos h3'] at hT
  subst hT
  repeat (refine nst ?_)
  refine z1X rfl rfl rfl (by rw[hn]; rfl) (z0n Tryz.underlying28 rfl rfl) (z2R) (by exact vcs) ⟨by decide,rfl⟩ ?_
  repeat (refine nst ?_)
  exact rt1 [84]
 have h3':¬ t.2.1<31:=by simpa using h3
 rw[if_neg h3'] at hT
 rw[←zaG t.2.1.toNat (by omega) (by omega),show((t.2.1.toNat:Nat):Int)=t.2.1 by omega] at hT
 unfold z53 at hT
 clear h3
 repeat (refine nst ?_)
 refine z1X rfl rfl rfl (by rw[hn]; rfl) (z0n Tryz.underlying28 rfl rfl) (z2R) (by exact vcs) ⟨by decide,rfl⟩ ?_
 repeat (refine nst ?_)
 refine z81 (St.of [(1,.c (.ptr 65 0)),(3,lv (.int .i64 c)),(4,.c (.own 88 1 0 ([c+31]++(if 16384≤t.2.1 then [128+t.2.1/16384] else [])).length))] [(65,z3O t),(88,.row (.ints .u8 ([c+31]++(if 16384≤t.2.1 then [128+t.2.1/16384] else []))))]) ?_ ?_
 ·refine z06 rfl (by simp) (fun h5=>?_) (fun h5=>?_)
  ·have h5':16384≤t.2.1:=by simpa using h5
   rw[if_pos h5']
   repeat (refine nst ?_)
   refine z1X rfl rfl rfl (by rw[hn]; rfl) (z0n Tryz.underlying28 rfl rfl) (z2R) (by exact vcs) ⟨by decide,rfl⟩ ?_
   repeat (refine nst ?_)
   refine z2I rfl rfl rfl rfl rfl rfl (by rw[hn]; rfl) (z0n Tryz.underlying28 rfl rfl) rfl rfl rfl rfl (by exact vcs) (by first | rfl |(simp; done) |(simp; omega)) ⟨by first |(simp; done) |(simp; omega) |(simp at*; omega),by decide⟩ ?_
   repeat (refine nst ?_)
   (refine z47 ?_; refine St.le_of ⟨?_,?_⟩<;>(repeat' (first | exact trivial | exact rfl | refine⟨?_,?_⟩))<;>first | exact rfl |(simp; done) | skip)
  ·have h5':¬ 16384≤t.2.1:=by simpa using h5
   rw[if_neg h5']
   repeat (refine nst ?_)
   (refine z47 ?_; refine St.le_of ⟨?_,?_⟩<;>(repeat' (first | exact trivial | exact rfl | refine⟨?_,?_⟩))<;>first | exact rfl |(simp; done) | skip)
 generalize hA:(if 16384≤t.2.1 then [128+t.2.1/16384] else [])=A at*
 have hAl:A.length≤1:=by rw[←hA]; split<;>simp
 generalize hX: [c+31]++A=X at*
 have hXl:X.length≤2:=by rw[←hX]; simp; omega
 repeat (refine nst ?_)
 refine z81 (St.of [(1,.c (.ptr 65 0)),(4,.c (.own 88 1 0 (X++(if 128≤t.2.1 then [128+t.2.1/128%128] else [])).length))] [(65,z3O t),(88,.row (.ints .u8 (X++(if 128≤t.2.1 then [128+t.2.1/128%128] else []))))]) ?_ ?_
 ·refine z06 rfl (by simp) (fun h5=>?_) (fun h5=>?_)
  ·have h5':128≤t.2.1:=by simpa using h5
   rw[if_pos h5']
   repeat (refine nst ?_)
   refine z1X rfl rfl rfl (by rw[hn]; rfl) (z0n Tryz.underlying28 rfl rfl) (z2R) (by exact vcs) ⟨by decide,rfl⟩ ?_
   repeat (refine nst ?_)
   refine z2I rfl rfl rfl rfl rfl rfl (by rw[hn]; rfl) (z0n Tryz.underlying28 rfl rfl) rfl rfl rfl rfl (by exact vcs) (by first | rfl |(simp; done) |(simp; omega)) ⟨by first |(simp; done) |(simp; omega) |(simp at*; omega),by decide⟩ ?_
   repeat (refine nst ?_)
   (refine z47 ?_; refine St.le_of ⟨?_,?_⟩<;>(repeat' (first | exact trivial | exact rfl | refine⟨?_,?_⟩))<;>first | exact rfl |(simp; done) | skip)
  ·have h5':¬ 128≤t.2.1:=by simpa using h5
   rw[if_neg h5',List.append_nil]
   repeat (refine nst ?_)
   (refine z47 ?_; refine St.le_of ⟨?_,?_⟩<;>(repeat' (first | exact trivial | exact rfl | refine⟨?_,?_⟩))<;>first | exact rfl |(simp; done) | skip)
 generalize hB:(if 128≤t.2.1 then [128+t.2.1/128%128] else [])=B at*
 have hBl:B.length≤1:=by rw[←hB]; split<;>simp
 have hT2:T=X++B++ [t.2.1%128]:=by rw[hT,←hX]; simp
 have hYl:(X++B).length≤3:=by simp; omega
 generalize X++B=Y at*
 subst hT2
 repeat (refine nst ?_)
 refine z1X rfl rfl rfl (by rw[hn]; rfl) (z0n Tryz.underlying28 rfl rfl) (z2R) (by exact vcs) ⟨by decide,rfl⟩ ?_
 repeat (refine nst ?_)
 refine z2I rfl rfl rfl rfl rfl rfl (by rw[hn]; rfl) (z0n Tryz.underlying28 rfl rfl) rfl rfl rfl rfl (by exact vcs) (by first | rfl |(simp; done) |(simp; omega)) ⟨by first |(simp; done) |(simp; omega) |(simp at*; omega),by decide⟩ ?_
 repeat (refine nst ?_)
 exact rt1 [88]
set_option maxRecDepth 100000 in
theorem zg5 (n:Int) (h0:0≤n) (h:n≤16777216):Ct Tryz.prog 106 [lv (.int .i64 n)] [] (B8 (z2E n)) [] []:=by
 refine Ct.freeze (res:= .c (.own 0 1 0 (z2E n).length)) (d:= .ints .u8 (z2E n)) ?_ ⟨rfl,rfl,rfl,by simp,by rw[List.drop_zero,List.take_length]⟩ rfl
 generalize hT:z2E n=T at*
 unfold z2E at hT
 refine z00 Tryz.func106 rfl rfl rfl rfl rfl (fun E hn hb=>?_)
 repeat (refine nst ?_)
 refine z06 rfl (by simp) (fun h1=>?_) (fun h1=>?_)
 ·have h1':n<128:=by simpa using h1
  rw[if_pos h1'] at hT
  subst hT
  repeat (refine nst ?_)
  refine z1X rfl rfl rfl (by rw[hn]; rfl) (z0n Tryz.underlying28 rfl rfl) (z2R) (by exact vcs) ⟨by decide,rfl⟩ ?_
  repeat (refine nst ?_)
  exact rt1 [71]
 have h1':¬ n<128:=by simpa using h1
 rw[if_neg h1'] at hT
 repeat (refine nst ?_)
 refine z06 rfl (by simp) (fun h2=>?_) (fun h2=>?_)
 ·have h2':n<256:=by simpa using h2
  rw[if_pos h2'] at hT
  subst hT
  repeat (refine nst ?_)
  refine z1X rfl rfl rfl (by rw[hn]; rfl) (z0n Tryz.underlying28 rfl rfl) (z2R) (by exact vcs) ⟨by decide,rfl⟩ ?_
  repeat (refine nst ?_)
  exact rt1 [76]
 have h2':¬ n<256:=by simpa using h2
 rw[if_neg h2'] at hT
 repeat (refine nst ?_)
 refine z06 rfl (by simp) (fun h3=>?_) (fun h3=>?_)
 ·have h3':n<65536:=by simpa using h3
  rw[if_pos h3'] at hT
  subst hT
  repeat (refine nst ?_)
  refine z1X rfl rfl rfl (by rw[hn]; rfl) (z0n Tryz.underlying28 rfl rfl) (z2R) (by exact vcs) ⟨by decide,rfl⟩ ?_
  repeat (refine nst ?_)
  exact rt1 [85]
 have h3':¬ n<65536:=by simpa using h3
 rw[if_neg h3'] at hT
 repeat (refine nst ?_)
 refine z06 rfl (by simp) (fun h4=>?_) (fun h4=>?_)
 ·have h4':n<16777216:=by simpa using h4
  rw[if_pos h4'] at hT
  subst hT
  repeat (refine nst ?_)
  refine z1X rfl rfl rfl (by rw[hn]; rfl) (z0n Tryz.underlying28 rfl rfl) (z2R) (by exact vcs) ⟨by decide,rfl⟩ ?_
  repeat (refine nst ?_)
  exact rt1 [98]
 have h4':¬ n<16777216:=by simpa using h4
 rw[if_neg h4'] at hT
 subst hT
 repeat (refine nst ?_)
 refine z1X rfl rfl rfl (by rw[hn]; rfl) (z0n Tryz.underlying28 rfl rfl) (z2R) (by exact vcs) ⟨by decide,rfl⟩ ?_
 repeat (refine nst ?_)
 exact rt1 [113]
theorem zg6 (n:Nat) (h:n≤16777216):Ct Tryz.prog 106 [lv (.int .i64 (n:Int))] [] (B8 (z0I n)) [] []:=by
 rw[←z8d n h]
 exact zg5 (n:Int) (by omega) (by omega)
theorem z5f (t:z0h) (b:List Int) (h:z0q t=true) (hl:b.length≤16000000):Ct Tryz.prog 47 [z2c t,B8 b] [] (.c (.own 0 1 0 (z05 t b).length)) [] [.row (.ints .u8 (z05 t b))]:=by
 have htb:=zdt t h
 have hlb:=zg6 b.length (by omega)
 have hW:z05 t b=tgL t++z0I b.length++b:=rfl
 have hT5:(tgL t).length≤10:=by
  have:=z2g 128 5 t.2.1.toNat
  unfold tgL
  split
  ·simp
  ·simp[z8j]; omega
 have hL5:(z0I b.length).length≤10:=by
  generalize b.length=n
  have:=z2g 256 5 n
  unfold z0I
  split
  ·simp
  ·simp; omega
 generalize z05 t b=R at*
 generalize z0I b.length=D at*
 generalize tgL t=T at*
 subst hW
 refine z00 Tryz.func47 rfl rfl rfl rfl rfl (fun E hn hb=>?_)
 repeat (refine nst ?_)
 refine z1v rfl rfl rfl (by rw[hn]; rfl) rfl (by exact vcs) rfl rfl ?_
 repeat (refine nst ?_)
 refine z0w [] htb rfl rfl (by rw[hn]; rfl) rfl rfl (by trivial) ⟨rfl,trivial,trivial,rfl⟩ ?_
 repeat (refine nst ?_)
 refine z1C (hlb) rfl rfl rfl (by rw[hn]; rfl) rfl rfl (by exact vcs) rfl rfl rfl ?_
 repeat (refine nst ?_)
 refine z2I rfl rfl rfl rfl rfl rfl (by rw[hn]; rfl) (z0n Tryz.underlying28 rfl rfl) rfl rfl rfl rfl (by exact vcs) (by first | rfl |(simp; done) |(simp; omega)) ⟨by first |(simp; done) |(simp; omega) |(simp at*; omega),by decide⟩ ?_
 repeat (refine nst ?_)
 refine z2I rfl rfl rfl rfl rfl rfl (by rw[hn]; rfl) (z0n Tryz.underlying28 rfl rfl) rfl rfl rfl rfl (by exact vcs) (by first | rfl |(simp; done) |(simp; omega)) ⟨by first |(simp; done) |(simp; omega) |(simp at*; omega),by decide⟩ ?_
 repeat (refine nst ?_)
 exact rt1 [71]
end Go.Proofs.YtaagjnlkinojcaaGreat
namespace Go.Sx
open Go
open Go.ChangeShapes Go.WideShapes Go.ChangeAt Go.RowKit Go.Joins Go.Deep
set_option linter.unusedVariables false
abbrev Was (w:World):Nat→Prop:=fun b=>b<w.heap.size
theorem zeO {w:World} {a:Addr} {v:Value} (h:w.cell? a=some v):a.block<w.heap.size∧a.spot=none:=by
 unfold World.cell? at h
 split at h
 ·rename_i c e m hb
  refine⟨(Array.getElem?_eq_some_iff.1 hb).1,?_⟩
  split at h
  ·cases h
  ·rename_i hs; simpa using hs
 ·cases h
section
variable {H:Type} {enc:TypeId×Value→H} {P:Program} {w:World} {base:Nat} {spare:Nat→Bool} {held:Bool} {fuel:Nat}
theorem z9s {t e:TypeId} {k:IntKind} {v:Value} {x:DataW H×List MemPlace} (ht:P.underlying t=some (.slice e)) (he:P.underlying e=some (.int k)) (hc:P.cellsOf e=1)
  (h:DataW.trod enc P w base spare held fuel t [v]=some x):∃ l:List Int,l.length≤9223372036854775807∧(∀ n ∈ l,(Lit.int k n).wf=true)∧LfR (Was w) w (.ints k l) v:=by
 rcases open_ints ht he hc h with ⟨hcs,_⟩ |⟨a,len,cap,zs,hcs,_,hl,hm,hz,_,hcell,hw⟩
 ·simp at hcs
  subst hcs
  refine⟨[],Nat.zero_le _,?_,LfR.ints _ _ _ _ _ rfl (Nat.le_refl _) (Nat.zero_le _) (fun h=>absurd rfl h)⟩
  intro n hn
  cases hn
 ·simp at hcs
  subst hcs
  have hlz:len≤zs.length:=by rw[hz]; split<;>omega
  have hlt:(zs.take len).length=len:=by simp; omega
  have hm':cap≤9223372036854775807:=hm
  refine⟨zs.take len,by omega,fun n hn=>hw n (List.mem_of_mem_take hn),LfR.ints _ _ _ _ _ hlt.symm hl hm fun hne=>?_⟩
  have h0:0<len:=by
   rcases Nat.eq_zero_or_pos len with h | h
   ·subst h; simp at hne
   ·exact h
  have hb:=zeO (hcell 0 (by omega))
  obtain⟨b,o,sp⟩:=a
  simp only[Addr.add,if_true] at hb
  obtain⟨hb1,hsp⟩:=hb
  subst hsp
  have hadd:∀ i,(⟨b,o,none⟩:Addr).add i=⟨b,o+i,none⟩:=by
   intro i
   unfold Addr.add
   split
   ·rename_i h; subst h; rfl
   ·rfl
  refine⟨b,o,rfl,hb1,fun i x hx=>?_⟩
  obtain⟨hi,hxe⟩:=List.getElem?_eq_some_iff.1 hx
  rw[hlt] at hi
  have:=hcell i (by omega)
  rw[hadd] at this
  rw[this]
  rw[List.getElem_take] at hxe
  rw[←hxe]
  simp[show i<zs.length by omega]
theorem zkl {n:Int} (h:(Lit.int .u8 n).wf=true):0≤n∧n<256:=by
 simp only[Lit.wf,Bool.and_eq_true,decide_eq_true_eq] at h
 have h1:IntKind.u8.min=0:=by decide
 have h2:IntKind.u8.max=255:=by decide
 omega
theorem open_bytes {t e:TypeId} {v:Value} {d:DataW H} {p:List MemPlace} (ht:P.underlying t=some (.slice e)) (he:P.underlying e=some (.int .u8)) (hc:P.cellsOf e=1) {r:Reach} {b0:Nat} (hv:Value.okWide P w r b0 t v)
  (h:DataW.Trod enc P w base spare held t v d p):∃ l:List Int,l.length≤9223372036854775807∧(∀ n ∈ l,0≤n∧n<256)∧∀ β,AvR β (Was w) w (.c (.lf (.ints .u8 l))) v:=by
 obtain⟨a,n,c,rfl⟩:=okWide_slice ht hv
 obtain⟨fuel,h⟩:=h
 simp only[Value.cells] at h
 obtain⟨l,h1,h2,h3⟩:=z9s ht he hc h
 exact⟨l,h1,fun n hn=>zkl (h2 n hn),fun β=> .c (.lf h3)⟩
theorem Ct.calls {f:FuncId} {args:List Av} (h:Ct P f args [] (.c (.lf (.v (.bool true)))) [] []) (w:World) (vs:List Value) (hl:vs.length=args.length) (ha:∀(i:Nat) (x:Av) (v:Value),args[i]? =some x→vs[i]? =some v→AvR (fun _=>none) (Was w) w x v) (hgd:GdK w (fun _=>False):=by exact fun p hp=>nomatch hp):
  Calls P f vs.toArray w fun e w'=>e= .returned (.bool true)∧Below w.heap.size w w':=by
 refine(h.2.2 w (fun _=>none) (Was w) vs hl ha (fun i b h=>by simp at h) (fun i j g h=>absurd h (Nat.not_lt_zero _)) (fun j g h=>absurd h (Nat.not_lt_zero _)) (fun _ _=>rfl) (fun b hb=>hb) (fun p hp=>⟨by rintro⟨i,hi,_⟩; exact absurd hi (Nat.not_lt_zero _),(hgd p hp).2⟩)).mono fun e w' hq=>?_
 obtain⟨v,β',F',rfl,hr,_,_,ho⟩:=hq
 refine⟨?_,?_⟩
 ·cases hr with | c hr=>cases hr with | lf hr=>cases hr with | v x h=>rfl
 ·have hk:=ho.keep
  exact⟨hk.os,hk.tape,hk.output,hk.size,fun k hk'=>hk.block k hk' (by rintro⟨i,hi,_⟩; exact absurd hi (Nat.not_lt_zero _))⟩
end
end Go.Sx
namespace Go.Proofs.YtaagjnlkinojcaaGreat
set_option linter.unusedSimpArgs false
set_option linter.unusedVariables false
open Go.Sx
set_option maxRecDepth 10000
theorem z6M (a c:List Int) (x:Int):(a++(x::c)).getD a.length 0=x:=by
 rw[List.getD_eq_getElem?_getD,List.getElem?_append_right (Nat.le_refl _),Nat.sub_self]; rfl
theorem z6q (a c:List Int) (x:Int):a++(x::c)=(a++ [x])++c:=by simp
theorem z8K (a:List Int) (x:Int):(a++ [x]).length=a.length+1:=by simp
theorem z54 (a c:List Int) (x n:Int) (k:Nat):z0Z (a++(x::c)) (k+1) a.length n=if k=2∧x=128 then(0,a.length+1,4) else if x<128 then
   if 128*n+x%128<31 then(0,a.length+1,4) else(128*n+x%128,a.length+1,0)
  else z0Z ((a++ [x])++c) k (a++ [x]).length (128*n+x%128):=by
 rw[z0Z,if_pos (by simp),z6M,z8K,←z6q]
theorem zhQ (a c:List Int) (n:Int) (h1:31≤n) (h2:n<2097152):z0Z (a++(z53 n++c)) 3 a.length 0=(n,a.length+(z53 n).length,0):=by
 unfold z53
 by_cases p:16384≤n
 ·rw[if_pos p,if_pos (by omega)]
  show z0Z (a++((128+n/16384)::((128+n/128%128)::((n%128)::c)))) 3 a.length 0=_
  rw[z54,if_neg (by omega),if_neg (by omega),z54,if_neg (by omega),if_neg (by omega),z54,if_neg (by omega),if_pos (by omega),if_neg (by omega)]
  have:128*(128*(128*0+(128+n/16384)%128)+(128+n/128%128)%128)+n%128%128=n:=by omega
  rw[this]
  simp
 ·rw[if_neg p]
  by_cases q:128≤n
  ·rw[if_pos q]
   show z0Z (a++((128+n/128%128)::((n%128)::c))) 3 a.length 0=_
   rw[z54,if_neg (by omega),if_neg (by omega),z54,if_neg (by omega),if_pos (by omega),if_neg (by omega)]
   have:128*(128*0+(128+n/128%128)%128)+n%128%128=n:=by omega
   rw[this]
   simp
  ·rw[if_neg q]
   show z0Z (a++((n%128)::c)) 3 a.length 0=_
   rw[z54,if_neg (by omega),if_pos (by omega),if_neg (by omega)]
   have:128*0+n%128%128=n:=by omega
   rw[this]
   simp
theorem zeP (a c:List Int) (t:z0h) (h:z0q t=true):z0P (a++(tgL t++c)) a.length=(t,a.length+(tgL t).length,0):=by
 obtain⟨k,n,m⟩:=t
 have hr:0≤k∧k≤3∧0≤n∧n<2097152:=by simp[z0q] at h; omega
 have hf:z1h (k,n,m)=64*k+cond m 32 0:=rfl
 have hm:cond m (32:Int) 0=if m=true then 32 else 0:=by cases m<;>rfl
 have hm2:(decide (cond m (32:Int) 0=32))=m:=by cases m<;>rfl
 have hmb:cond m (32:Int) 0=0∨cond m (32:Int) 0=32:=by cases m<;>simp
 unfold tgL
 dsimp only
 rw[hf]
 generalize hg:cond m (32:Int) 0=g at*
 by_cases hn:n<31
 ·rw[if_pos hn]
  show z0P (a++((64*k+g+n)::c)) a.length=_
  unfold z0P z35
  rw[if_pos (by simp),z6M,if_neg (by omega)]
  have e1:(64*k+g+n)/64=k:=by omega
  have e2:(64*k+g+n)%32=n:=by omega
  have e3:decide ((64*k+g+n)/32%2=1)=m:=by
   rw[←hm2,decide_eq_decide]
   omega
  rw[e1,e2,e3]
  rfl
 ·rw[if_neg hn]
  have hR:=zaG n.toNat (by omega) (by omega)
  rw[show((n.toNat:Nat):Int)=n by omega] at hR
  rw[←hR]
  show z0P (a++((64*k+g+31)::(z53 n++c))) a.length=_
  unfold z0P z35
  rw[if_pos (by simp),z6M,if_pos (by omega)]
  have e1:(64*k+g+31)/64=k:=by omega
  have e3:decide ((64*k+g+31)/32%2=1)=m:=by
   rw[←hm2,decide_eq_decide]
   omega
  rw[e1,e3,z6q,←z8K a (64*k+g+31),zhQ _ _ _ (by omega) (by omega)]
  simp[z0U]
  omega
theorem zeQ (a c:List Int) (n:Nat) (h:n≤16777216) (hc:n≤c.length∨True):lenP (a++(z0I n++c)) a.length=((n:Int),a.length+(z0I n).length,0):=by
 rw[←z8d n h]
 unfold z2E
 have key:∀(x:Int) (D:List Int),128<x→x=128+D.length→D.length≤4→D.getD 0 0≠0→128≤z0F 0 D→z0F 0 D≤16777216→lenP (a++(x::(D++c))) a.length=(z0F 0 D,a.length+1+D.length,0):=by
  intro x D hx hx2 hD h0 h1 h2
  have e1:(a++(x::(D++c))).getD (a.length+1) 0=D.getD 0 0:=by
   rw[z6q,←z8K a x,List.getD_eq_getElem?_getD,List.getElem?_append_right (Nat.le_refl _),Nat.sub_self]
   cases D with
   | nil=>exact absurd rfl h0
   | cons y t=>rfl
  have e2:((a++(x::(D++c))).drop (a.length+1)).take (x%128).toNat=D:=by
   rw[z6q,←z8K a x,List.drop_left,show(x%128).toNat=D.length by omega,List.take_left]
  unfold lenP z3v z2Q
  rw[if_pos (by simp),z6M,if_neg (by omega),if_neg (by omega),if_neg (by simp; omega),e1,e2,if_neg (by omega),if_neg (by omega)]
  rw[z34 _ _ _ rfl,show(x%128).toNat=D.length by omega]
 by_cases p1:n<128
 ·rw[if_pos (by omega)]
  show lenP (a++((n:Int)::c)) a.length=_
  unfold lenP z3v
  rw[if_pos (by simp),z6M,if_pos (by omega)]
  rfl
 rw[if_neg (by omega)]
 by_cases p2:n<256
 ·rw[if_pos (by omega)]
  have:=key 129 [(n:Int)] (by decide) rfl (by simp) (by simp; omega) (by simp[z0F]; omega) (by simp[z0F]; omega)
  simp only[z0F,List.length_cons,List.length_nil,List.cons_append,List.nil_append] at this ⊢
  rw[this]
  simp
 rw[if_neg (by omega)]
 by_cases p3:n<65536
 ·rw[if_pos (by omega)]
  have:=key 130 [(n:Int)/256,(n:Int)%256] (by decide) rfl (by simp) (by simp; omega) (by simp[z0F]; omega) (by simp[z0F]; omega)
  simp only[z0F,List.length_cons,List.length_nil,List.cons_append,List.nil_append] at this ⊢
  rw[this]
  simp
  omega
 rw[if_neg (by omega)]
 by_cases p4:n<16777216
 ·rw[if_pos (by omega)]
  have:=key 131 [(n:Int)/65536,(n:Int)/256%256,(n:Int)%256] (by decide) rfl (by simp) (by simp; omega) (by simp[z0F]; omega) (by simp[z0F]; omega)
  simp only[z0F,List.length_cons,List.length_nil,List.cons_append,List.nil_append] at this ⊢
  rw[this]
  simp
  omega
 rw[if_neg (by omega)]
 have hn:n=16777216:=by omega
 subst hn
 have:=key 132 [1,0,0,0] (by decide) rfl (by decide) (by decide) (by decide) (by decide)
 exact this
theorem z3y (a b c:List Int) (t:z0h) (h:z0q t=true) (hb:b.length≤16777216):z0r (a++(z05 t b++c)) a.length t=(b,a.length+(z05 t b).length,0):=by
 have e0:z05 t b++c=tgL t++(z0I b.length++(b++c)):=by simp[z05]
 have e1:=zeP a (z0I b.length++(b++c)) t h
 have e2:=zeQ (a++tgL t) (b++c) b.length hb (.inr trivial)
 have hr:z0d (a++(tgL t++(z0I b.length++(b++c)))) a.length=((t,(b.length:Int)),a.length+(tgL t).length+(z0I b.length).length,0):=by
  unfold z0d z36
  rw[e1]
  dsimp only
  rw[if_pos rfl,←List.append_assoc,←List.length_append,e2]
  rfl
 rw[e0]
 unfold z0r z23
 rw[hr]
 dsimp only
 rw[if_pos rfl,if_pos rfl,if_neg (by simp; omega),Int.toNat_natCast]
 rw[z34 _ _ _ rfl]
 have e3:a++(tgL t++(z0I b.length++(b++c)))=(a++tgL t++z0I b.length)++(b++c):=by simp
 rw[e3,show a.length+(tgL t).length+(z0I b.length).length=(a++tgL t++z0I b.length).length by simp[Nat.add_assoc],List.drop_left,List.take_left]
 simp[z05]
 omega
theorem z6N (t:z0h) (bs:List (List Int)) (h:z0q t=true) (hbl:bs.length≤12000000) (hl:bs.flatten.length≤16000000):
  Ct Tryz.prog 158 [z2c t,z2M bs] [] (.tup [B8 (z05 t bs.flatten),lv (.int .i64 0)]) [] []:=
 (zic t bs h hbl hl).freeze ⟨⟨rfl,rfl,rfl,by simp,by rw[List.drop_zero,List.take_length]⟩,rfl,trivial⟩ rfl
theorem z1R (t:z0h) (b:List Int) (h:z0q t=true) (hl:b.length≤16000000):Ct Tryz.prog 47 [z2c t,B8 b] [] (B8 (z05 t b)) [] []:=
 (z5f t b h hl).freeze ⟨rfl,rfl,rfl,by simp,by rw[List.drop_zero,List.take_length]⟩ rfl
end Go.Proofs.YtaagjnlkinojcaaGreat
namespace Go.Proofs.YtaagjnlkinojcaaGreat
set_option linter.unusedSimpArgs false
set_option linter.unusedVariables false
open Go.Sx
set_option maxRecDepth 10000
abbrev z37 (x:Int):Cell:= .lf (.v (.int .i64 x))
end Go.Proofs.YtaagjnlkinojcaaGreat
namespace Go.Proofs.YtaagjnlkinojcaaGreat
set_option linter.unusedSimpArgs false
set_option linter.unusedVariables false
open Go.Sx
set_option maxRecDepth 10000
@[simp] theorem zxN (l:List Int):(strOfNums l).size=l.length:=strOfNums_size l
end Go.Proofs.YtaagjnlkinojcaaGreat
namespace Go.Proofs.YtaagjnlkinojcaaGreat
set_option linter.unusedSimpArgs false
set_option linter.unusedVariables false
open Go.Sx
set_option maxRecDepth 10000
def tw2 (n:Int):List Int:= [48+n/10%10,48+n%10]
@[simp] theorem zxW (n:Int):(tw2 n).length=2:=rfl
theorem z5g (l:List Int) (p:Nat) (hp:p≤l.length) (hl:l.length≤16000000) (hw:WfB l):Ct Tryz.prog 109 [.c (.ptr 0 0)] [z04 l p] (.tup [z2c (z0d l p).1.1,lv (.int .i64 (z0d l p).1.2),lv (.int .i64 (z0d l p).2.2)]) [z04 l (z0d l p).2.1] []:=by
 have hr:=z8t l p hp hl hw
 generalize z0d l p=F at*
 obtain⟨⟨⟨t1,t2,t3⟩,n⟩,q,e⟩:=F
 dsimp only at*
 refine z00 Tryz.func109 rfl rfl rfl rfl rfl (fun E hn hb=>?_)
 repeat refine nx ?_
 exact rt1 []
end Go.Proofs.YtaagjnlkinojcaaGreat

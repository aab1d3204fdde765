/-
  Chapter 16: places, points that may be. The conditions: rows that a machine can hold.
-/
import Derived.Test.YtaagjnlkinojcaaGreatP0
import Derived.Test.YtaagjnlkinojcaaGreatQ21
namespace Go.Proofs.YtaagjnlkinojcaaGreat
set_option linter.unusedSimpArgs false
set_option linter.unusedVariables false
open Go Go.Sx
set_option maxRecDepth 10000
def z5j (m:Nat):List Int→Nat
 | []=>m
 | x::l=>z5j (if 0≤x∧x≤8 then m||| 2^x.toNat else m) l
theorem zdM:∀(l:List Int) (m:Nat),m<512→z5j m l<512
 | [],m,h=>h
 | x::l,m,h=>by
   rw[z5j]
   refine zdM l _ ?_
   split
   ·rename_i hx
    have:2^x.toNat<2^9:=Nat.pow_lt_pow_right (by decide) (by omega)
    exact Nat.or_lt_two_pow (n:=9) h this
   ·exact h
abbrev IQ (l:List Int):Av:= .c (.lf (.ints .i64 l))
theorem orM:∀ m:Fin 512,∀ r:Fin 9,IntKind.i64.wrap (BitVec.ofInt IntKind.i64.bits ((m.val:Nat):Int)||| BitVec.ofInt IntKind.i64.bits (1*2^min (((r.val:Nat):Int).toNat) IntKind.i64.bits)).toNat=((m.val||| 2^r.val:Nat):Int):=by decide+kernel
theorem shM:∀ r:Fin 9,IntKind.i64.wrap (1*2^min (((r.val:Nat):Int).toNat) IntKind.i64.bits)=1*2^min (((r.val:Nat):Int).toNat) IntKind.i64.bits∧1*2^min (((r.val:Nat):Int).toNat) IntKind.i64.bits=((2^r.val:Nat):Int)∧2^r.val≤256:=by decide+kernel
theorem zhH (l:List Int) (hl:l.length≤9223372036854775807):Ct Tryz.prog 9 [IQ l] [] (IQ (l.take 20)) [] []:=by
 have e1:l.take (min (l.length:Int) 20).toNat=l.take 20:=by
  rcases Nat.le_total l.length 20 with h | h
  ·rw[show(min (l.length:Int) 20).toNat=l.length by omega,List.take_length,List.take_of_length_le h]
  ·rw[show(min (l.length:Int) 20).toNat=20 by omega]
 rw[←e1]
 refine z00 Tryz.func9 rfl rfl rfl rfl rfl (fun E hn hb=>?_)
 repeat refine nx ?_
 exact rt1 []
theorem zaS:∀(l:List Int) (m:Nat) (i:Nat),i<l.length→z5j m (l.take (i+1))=(if 0≤l.getD i 0∧l.getD i 0≤8 then z5j m (l.take i)||| 2^(l.getD i 0).toNat else z5j m (l.take i))
 | [],m,i,h=>by simp at h
 | x::l,m,0,h=>by simp[z5j]
 | x::l,m,i+1,h=>by
   have:=zaS l (if 0≤x∧x≤8 then m||| 2^x.toNat else m) i (by simpa using h)
   simpa[z5j] using this
set_option maxHeartbeats 4000000 in
theorem zk8 (l:List Int) (hl:l.length≤16000000):Ct Tryz.prog 12 [IQ l] [] (lv (.int .i64 ((z5j 0 l:Nat):Int))) [] []:=by
 refine z00 Tryz.func12 rfl rfl rfl rfl rfl (fun E hn hb=>?_)
 repeat refine nx ?_
 refine z09 (St.le_of (l:= [(3,lv (.int .i64 0)),(6,IQ l),(7,lv (.int .i64 (l.length:Int))),(8,lv (.int .i64 ((0:Nat):Int)))]) (h:= []) (by refine⟨?_,?_⟩<;>(repeat' (first | exact trivial | exact rfl | refine⟨?_,?_⟩))<;>first | exact rfl |(simp; done) | skip)) ?_
 refine z0h (ι:= {i:Nat//i≤l.length}) (fun i=>St.of [(3,lv (.int .i64 ((z5j 0 (l.take i.1):Nat):Int))),(6,IQ l),(7,lv (.int .i64 (l.length:Int))),(8,lv (.int .i64 (i.1:Int)))] []) (fun i=>l.length -i.1) (fun i=>?_) ⟨0,by omega⟩
 obtain⟨i,hi⟩:=i
 dsimp only
 by_cases hi2:i<l.length
 ·have hnx:=zaS l 0 i hi2
  have hlt:=zdM (l.take i) 0 (by decide)
  have hq:l.getD (i:Int).toNat 0=l.getD i 0:=rfl
  generalize z5j 0 (l.take i)=m at*
  generalize l.getD i 0=x at*
  by_cases hx:0≤x∧x≤8
  ·rw[if_pos hx] at hnx
   obtain⟨r,rfl⟩:∃ r:Nat,x=r:=⟨x.toNat,by omega⟩
   obtain⟨s1,s2,s3⟩:=shM ⟨r,by omega⟩
   have ho:=orM ⟨m,hlt⟩ ⟨r,by omega⟩
   dsimp only at s1 s2 s3 ho
   rw[Int.toNat_natCast] at hnx
   repeat (first | refine nx ?_ | rw[hq])
   rw[ho,←hnx]
   refine z07 ⟨i+1,by omega⟩ (by dsimp only; omega) (St.le_of ⟨⟨rfl,rfl,rfl,rfl⟩,trivial⟩)
  ·rw[if_neg hx] at hnx
   rcases Int.lt_or_le x 0 with h | h
   ·repeat (first | refine nx ?_ | rw[hq])
    rw[←hnx]
    refine z07 ⟨i+1,by omega⟩ (by dsimp only; omega) (St.le_of ⟨⟨rfl,rfl,rfl,rfl⟩,trivial⟩)
   ·have h2:8<x:=by omega
    repeat (first | refine nx ?_ | rw[hq])
    rw[←hnx]
    refine z07 ⟨i+1,by omega⟩ (by dsimp only; omega) (St.le_of ⟨⟨rfl,rfl,rfl,rfl⟩,trivial⟩)
 ·obtain rfl:i=l.length:=by omega
  rw[List.take_length]
  repeat refine nx ?_
  exact rt1 []
end Go.Proofs.YtaagjnlkinojcaaGreat
namespace Go.Proofs.YtaagjnlkinojcaaGreat
set_option linter.unusedSimpArgs false
set_option linter.unusedVariables false
open Go.Sx
set_option maxRecDepth 10000
theorem zeB {l:List Int} (h:(l.all fun x=>decide (0≤x)&&decide (x<256))=true):WfB l:=fun x hx=>by
 have:=List.all_eq_true.1 h x hx
 simpa using this
abbrev poA:Av:= .agg [.lf (.v (.pointer none)),.lf (.v (.slice none 0 0)),.lf (.v (.slice none 0 0))]
abbrev scA (u:Bool):Av:= .agg [.lf (.v (.pointer none)),.lf (.v (.bool u)),.lf (.v (.bool false)),.lf (.v (.bool false)),.lf (.v (.bool false)),.lf (.v (.slice none 0 0))]
theorem zaT:Ct Tryz.prog 86 [zjv,zdh] [] (lv (.bool true)) [] []:=by
 refine z00 Tryz.func86 rfl rfl rfl rfl rfl (fun E hn hb=>?_)
 repeat (first | refine nx ?_ | refine wgF (lv (.bool false)) hn ?_)
 exact rt1 []
theorem zfQ:Ct Tryz.prog 41 [poA] [] (lv (.bool false)) [] []:=by
 have h1:=zaT
 refine z00 Tryz.func41 rfl rfl rfl rfl rfl (fun E hn hb=>?_)
 repeat (first | refine nx ?_ | refine wgF (lv (.bool false)) hn ?_)
 exact rt1 []
abbrev bsR (l:List Bool):Av:= .c (.lf (.recs 1 (l.map fun b=> [Leaf.v (.bool b)])))
def z4w:List Bool→Nat
 | []=>0
 | b::l=>(cond b 1 0)+z4w l
theorem zbV:∀(l:List Bool) (i:Nat),i<l.length→z4w (l.take (i+1))=z4w (l.take i)+cond (l.getD i false) 1 0
 | [],i,h=>by simp at h
 | b::l,0,h=>by simp[z4w]
 | b::l,i+1,h=>by
   have:=zbV l i (by simpa using h)
   simp only[List.take_succ_cons,z4w,List.getD_cons_succ]
   omega
theorem zfR:∀ l:List Bool,z4w l≤l.length
 | []=>by simp[z4w]
 | b::l=>by
   have:=zfR l
   cases b<;>simp[z4w]<;>omega
theorem zhI (l:List Bool) (hl:l.length≤1000):Ct Tryz.prog 85 [bsR l] [] (lv (.int .i64 (z4w l:Int))) [] []:=by
 refine z00 Tryz.func85 rfl rfl rfl rfl rfl (fun E hn hb=>?_)
 repeat refine nx ?_
 rw[List.length_map]
 refine z09 (St.le_of (l:= [(3,lv (.int .i64 0)),(6,bsR l),(7,lv (.int .i64 (l.length:Int))),(8,lv (.int .i64 ((0:Nat):Int)))]) (h:= []) (by refine⟨?_,?_⟩<;>(repeat' (first | exact trivial | exact rfl | refine⟨?_,?_⟩))<;>first | exact rfl |(simp; done) | skip)) ?_
 refine z0h (ι:= {i:Nat//i≤l.length}) (fun i=>St.of [(3,lv (.int .i64 ((z4w (l.take i.1):Nat):Int))),(6,bsR l),(7,lv (.int .i64 (l.length:Int))),(8,lv (.int .i64 (i.1:Int)))] []) (fun i=>l.length -i.1) (fun i=>?_) ⟨0,by omega⟩
 obtain⟨i,hi⟩:=i
 dsimp only
 by_cases hi2:i<l.length
 ·have hnx:=zbV l i hi2
  have hle:=zfR (l.take i)
  have hlt:(l.take i).length≤1000:=by simp; omega
  have hq:l.getD (i:Int).toNat default=l.getD i false:=rfl
  generalize z4w (l.take i)=n at*
  generalize l.getD i false=b at*
  cases b with
  | true=>
    repeat (first | refine nx ?_ | rw[hq])
    refine z07 ⟨i+1,by omega⟩ (by dsimp only; omega) (St.le_of ⟨⟨?_,rfl,rfl,rfl⟩,trivial⟩)
    dsimp only; rw[hnx]; rfl
  | false=>
    repeat (first | refine nx ?_ | rw[hq])
    refine z07 ⟨i+1,by omega⟩ (by dsimp only; omega) (St.le_of ⟨⟨?_,rfl,rfl,rfl⟩,trivial⟩)
    dsimp only; rw[hnx]; rfl
 ·obtain rfl:i=l.length:=by omega
  rw[List.take_length]
  repeat refine nx ?_
  exact rt1 []
theorem zaU (u:Bool):Ct Tryz.prog 32 [scA u] [] (lv (.bool u)) [] []:=by
 have h1:=zaT
 have h2:=zhI [u,false,false] (by simp)
 have h2:Ct Tryz.prog 85 [.c (.lf (.recs 1 [[Leaf.v (.bool u)],[Leaf.v (.bool false)],[Leaf.v (.bool false)]]))] [] (lv (.int .i64 ((z4w [u,false,false]:Nat):Int))) [] []:=h2
 cases u with
 | true=>
   rw[show z4w [true,false,false]=1 from rfl] at h2
   refine z00 Tryz.func32 rfl rfl rfl rfl rfl (fun E hn hb=>?_)
   repeat (first | refine nx ?_ | refine wgF (lv (.bool false)) hn ?_)
   refine rt2 [] (congrArg (fun x=>lv (.bool x)) ?_) trivial; (simp[z16,Cell.kill,Cell.kill1])
 | false=>
   rw[show z4w [false,false,false]=0 from rfl] at h2
   refine z00 Tryz.func32 rfl rfl rfl rfl rfl (fun E hn hb=>?_)
   repeat (first | refine nx ?_ | refine wgF (lv (.bool false)) hn ?_)
   refine rt2 [] (congrArg (fun x=>lv (.bool x)) ?_) trivial; (simp[z16,Cell.kill,Cell.kill1])
theorem zhJ:Ct Tryz.prog 50 [.c (.ptr 0 0)] [z2y 0,z05 [] 0] poA [z2y 0,z05 [] 0] []:=by
 have h1:=z9q [] 0 0 true 52 (by decide) (by decide) (fun x hx=>by cases hx) (by decide+kernel)
 have h2:=z9r [] 0 1 false 54 (by decide) (by decide) (fun x hx=>by cases hx) (by decide+kernel)
 have h3:=zjA [] 0 2 true 56 (by decide) (by decide) (fun x hx=>by cases hx) (by decide+kernel)
 refine z00 Tryz.func50 rfl rfl rfl rfl rfl (fun E hn hb=>?_)
 repeat refine nx ?_
 exact rt1 []
theorem zk9:Ct Tryz.prog 49 [.c (.ptr 0 0),.c (.fn (.func 50) [] []),.c (.fn (.func 41) [] [])] [z05 [48,0] 0] (.tup [poA,lv (.int .i64 6)]) [z05 [48,0] 0] []:=by
 have ho:z0m [48,0] 0 (ofT 16)=([],2,0):=by decide+kernel
 have hw:WfB [48,0]:=zeB (by decide+kernel)
 have h0:=z1W [48,0] 0
 have h1:=z1G 16
 have h2:=z2m [48,0] 0 (ofT 16) (by decide) (by decide) hw (by rw[ho])
 rw[ho] at h2
 dsimp only at h2
 have h3:=zhJ
 have h4:=z1b [] 0 (by decide) (by decide)
 have h5:=zfQ
 have h6:=z24 [48,0] 2 0 (by decide) (by decide)
 refine z00 Tryz.func49 rfl rfl rfl rfl rfl (fun E hn hb=>?_)
 repeat refine nx ?_
 exact rt1 []
theorem zoG:Ct Tryz.prog 14 [.c (.ptr 0 0)] [z05 [48,0] 0] (.tup [poA,lv (.int .i64 6)]) [z05 [48,0] 0] []:=by
 have h1:=zk9
 refine z00 Tryz.func14 rfl rfl rfl rfl rfl (fun E hn hb=>?_)
 repeat refine nx ?_
 exact rt1 []
theorem zhK:Ct Tryz.prog 89 [.c (.ptr 0 0)] [z2y 0,z05 [] 0] (scA false) [z2y 0,z05 [] 0] []:=by
 have hw:WfB []:=fun x hx=>by cases hx
 have h1:=z9q [] 0 0 true 52 (by decide) (by decide) hw (by decide+kernel)
 have h2:=z4o [] 0 1 false 91 (by decide) (by decide) hw (by decide+kernel)
 have h3:=z4o [] 0 2 false 91 (by decide) (by decide) hw (by decide+kernel)
 have h4:=z9r [] 0 3 false 54 (by decide) (by decide) hw (by decide+kernel)
 have h5:=z4o [] 0 4 false 91 (by decide) (by decide) hw (by decide+kernel)
 have h6:=z4o [] 0 5 false 91 (by decide) (by decide) hw (by decide+kernel)
 refine z00 Tryz.func89 rfl rfl rfl rfl rfl (fun E hn hb=>?_)
 repeat refine nx ?_
 exact rt1 []
theorem zka:Ct Tryz.prog 88 [.c (.ptr 0 0),.c (.fn (.func 89) [] []),.c (.fn (.func 32) [] [])] [z05 [48,0] 0] (.tup [scA false,lv (.int .i64 6)]) [z05 [48,0] 0] []:=by
 have ho:z0m [48,0] 0 (ofT 16)=([],2,0):=by decide+kernel
 have hw:WfB [48,0]:=zeB (by decide+kernel)
 have h0:=z1W [48,0] 0
 have h1:=z1G 16
 have h2:=z2m [48,0] 0 (ofT 16) (by decide) (by decide) hw (by rw[ho])
 rw[ho] at h2
 dsimp only at h2
 have h3:=zhK
 have h4:=z1b [] 0 (by decide) (by decide)
 have h5:=zaU false
 have h6:=z24 [48,0] 2 0 (by decide) (by decide)
 refine z00 Tryz.func88 rfl rfl rfl rfl rfl (fun E hn hb=>?_)
 repeat refine nx ?_
 exact rt1 []
theorem zoH:Ct Tryz.prog 34 [.c (.ptr 0 0)] [z05 [48,0] 0] (.tup [scA false,lv (.int .i64 6)]) [z05 [48,0] 0] []:=by
 have h1:=zka
 refine z00 Tryz.func34 rfl rfl rfl rfl rfl (fun E hn hb=>?_)
 repeat refine nx ?_
 exact rt1 []
theorem zfS:Ct Tryz.prog 89 [.c (.ptr 0 0)] [z2y 0,z05 [129,1,255] 0] (scA true) [z2y 0,z05 [129,1,255] 3] []:=by
 have hw:WfB [129,1,255]:=zeB (by decide+kernel)
 have h1:=z9q [129,1,255] 0 0 true 52 (by decide) (by decide) hw (by decide+kernel)
 have h2:=zhv [129,1,255] 0 3 1 false (by decide) (by decide) hw (by decide+kernel) (by decide+kernel)
 have h3:=z4o [129,1,255] 3 2 false 91 (by decide) (by decide) hw (by decide+kernel)
 have h4:=z9r [129,1,255] 3 3 false 54 (by decide) (by decide) hw (by decide+kernel)
 have h5:=z4o [129,1,255] 3 4 false 91 (by decide) (by decide) hw (by decide+kernel)
 have h6:=z4o [129,1,255] 3 5 false 91 (by decide) (by decide) hw (by decide+kernel)
 refine z00 Tryz.func89 rfl rfl rfl rfl rfl (fun E hn hb=>?_)
 repeat refine nx ?_
 exact rt1 []
theorem zhL:Ct Tryz.prog 88 [.c (.ptr 0 0),.c (.fn (.func 89) [] []),.c (.fn (.func 32) [] [])] [z05 [48,3,129,1,255] 0] (.tup [scA true,lv (.int .i64 0)]) [z05 [48,3,129,1,255] 5] []:=by
 have ho:z0m [48,3,129,1,255] 0 (ofT 16)=([129,1,255],5,0):=by decide+kernel
 have hw:WfB [48,3,129,1,255]:=zeB (by decide+kernel)
 have h0:=z1W [48,3,129,1,255] 0
 have h1:=z1G 16
 have h2:=z2m [48,3,129,1,255] 0 (ofT 16) (by decide) (by decide) hw (by rw[ho])
 rw[ho] at h2
 dsimp only at h2
 have h3:=zfS
 have h4:=z1b [129,1,255] 3 (by decide) (by decide)
 have h5:=zaU true
 refine z00 Tryz.func88 rfl rfl rfl rfl rfl (fun E hn hb=>?_)
 repeat refine nx ?_
 exact rt1 []
theorem zkb:Ct Tryz.prog 34 [.c (.ptr 0 0)] [z05 [48,3,129,1,255] 0] (.tup [scA true,lv (.int .i64 0)]) [z05 [48,3,129,1,255] 5] []:=by
 have h1:=zhL
 refine z00 Tryz.func34 rfl rfl rfl rfl rfl (fun E hn hb=>?_)
 repeat refine nx ?_
 exact rt1 []
theorem zeC:Ct Tryz.prog 11 [] [] (lv (.bool true)) [] []:=by
 have h1:=z2f [48,0] (by decide)
 have h2:=z2f [48,3,129,1,255] (by decide)
 have h3:=zoG
 have h5:=zkb
 have h4:=zoH
 have h6:=zk8 [1,8] (by decide)
 rw[show z5j 0 [1,8]=258 from by decide] at h6
 refine z00 Tryz.func11 rfl rfl rfl rfl rfl (fun E hn hb=>?_)
 repeat refine nx ?_
 refine z0w [85] h5 rfl rfl (by rw[hn]; rfl) rfl rfl (by trivial) ⟨rfl,rfl,(by simp[z0e]),rfl⟩ ?_
 repeat (first | refine nx ?_ | refine zk3 rfl rfl ?_)
 refine rt2 [] (congrArg (fun x=>lv (.bool x)) ?_) trivial; (simp[z16,Cell.kill,Cell.kill1])
theorem lgE {P:Go.Program} {E:Env} {ops:Array Go.Oper} {Q:Go.Exit→Go.Act→Go.World→Prop} {rest:List Go.Oper} {o:Go.Oper} {σ:St} {t e:Go.TypeId} {sz by_ n s nt:Nat} {parts:Array (Nat×Go.Operand)} {ps:List Prop} {out:List Cell} {d:Leaf} {dd:Option Nat} {i:Nat} {g G:Bool} (hn:E.n=nt) (hk:WL P E ops Q rest (σ.put dd (.cnd G (.c (.lf d))))) (hop:o.op= .buildSlice t n parts:=by exact rfl) (hg:o.guard=some (i,g):=by exact rfl) (hG:z14 ops σ i g=some G:=by exact rfl) (hdf:z0j o.dst some=some dd:=by exact rfl) (hd:z0d nt dd=true:=by exact rfl)
  (hE:Elt P t e sz by_:=by exact z0n rfl rfl rfl) (hs:z2c sz some=some s:=by exact rfl) (hf:z1s (fun i=>some (i*s,s)) (List.replicate (n*s) .un) (parts.toList.map fun(i,x)=>(i,ox σ x))=some (ps,out):=by exact rfl) (hdd:z3r (z2F P e s n out) some=some d:=by exact rfl) (hnn:n*s≤16777216∧n≤16777216∧z0f d=n∧szD d=s:=by exact⟨by decide,by decide,rfl,rfl⟩)
  (hz:z01 P e:=by first |(simp; done) | fail) (hp:G=true→z03 ps:=by intro hG; first | trivial | exact hG |(simp; done)):WL P E ops Q (o::rest) σ:=by
 obtain rfl:=z1t hs
 simp only[z0s,Option.some.injEq] at hdf
 subst hdf
 exact z0W (z3Y hg hG fun hh=>z8n hop hE hz hf (hp hh) (z2U hdd) hnn) (by rw[hn]; exact hd) hk
abbrev lfV (L:Leaf):Av:= .c (.lf L)
abbrev wpV (o:Option WhT):Av:= .c (.lf (wpL o))
set_option maxHeartbeats 4000000 in
theorem zhM (l:List Int) (p:Nat) (n:Int) (b:Bool) (g:Nat) (rd:List Int→Option WhT×Nat×Int) (hp:p≤l.length) (hl:l.length≤11760000) (hw:WfB l) (hs:∀ x,(rd x).2.1≤x.length)
  (hrd:∀ x:List Int,x.length≤l.length→WfB x→Ct Tryz.prog g [.c (.ptr 0 0)] [z05 x 0] (.tup [wpV (rd x).1,lv (.int .i64 (rd x).2.2)]) [z05 x (rd x).2.1] []):
  Ct Tryz.prog 108 [.c (.ptr 0 0),lv (.int .i64 n),lv (.bool b),.c (.fn (.func g) [] [])] [z05 l p] (.tup [wpV (z0l none l p (2,n,b) rd).1,lv (.int .i64 (z0l none l p (2,n,b) rd).2.2)]) [z05 l (z0l none l p (2,n,b) rd).2.1] []:=by
 have ht:=z1j n b
 have hi:=z2W l p (2,n,b) hp (by omega) hw
 have hop:=z2m l p (2,n,b) hp (by omega) hw
 have hoe:=z31 l p (2,n,b) hp (by omega) hw
 have hmem:=z0H l p (2,n,b)
 change Ct _ _ _ _ (lv (.bool (isH l p (2,n,b)))) _ _ at hi
 unfold z0l
 by_cases h:isH l p (2,n,b)=true
 ·rw[h] at hi
  rw[if_pos h]
  generalize z0m l p (2,n,b)=X at*
  obtain⟨x,q,e⟩:=X
  dsimp only at*
  by_cases he:e=0
  ·subst he
   have hop:=hop rfl
   rw[if_pos rfl]
   have hr:=hrd x hmem.1 (fun z hz=>hw z (hmem.2 z hz))
   have hsx:=hs x
   generalize rd x=R at*
   obtain⟨r,s,f⟩:=R
   dsimp only at*
   rcases r with _ |⟨w1,w2⟩
   all_goals
    by_cases hf:f=0
    ·subst hf
     rw[if_pos rfl]
     have hlf:=z1b x s hsx (by omega)
     by_cases hlt:s<x.length
     ·rw[if_pos hlt]
      refine z00 Tryz.func108 rfl rfl rfl rfl rfl (fun E hn hb=>?_)
      repeat refine nx ?_
      exact rt1 []
     ·rw[if_neg hlt]
      refine z00 Tryz.func108 rfl rfl rfl rfl rfl (fun E hn hb=>?_)
      repeat refine nx ?_
      exact rt1 []
    ·rw[if_neg hf]
     refine z00 Tryz.func108 rfl rfl rfl rfl rfl (fun E hn hb=>?_)
     repeat refine nx ?_
     exact rt1 []
  ·have hoe:=hoe he
   rw[if_neg he]
   refine z00 Tryz.func108 rfl rfl rfl rfl rfl (fun E hn hb=>?_)
   repeat refine nx ?_
   exact rt1 []
 ·rw[Bool.eq_false_iff.2 h] at hi
  rw[if_neg h]
  refine z00 Tryz.func108 rfl rfl rfl rfl rfl (fun E hn hb=>?_)
  repeat refine nx ?_
  exact rt1 []
theorem zhN (l:List Int) (p:Nat) (n:Int) (b:Bool) (g:Nat) (e:Int) (rd:List Int→Option WhT×Nat×Int) (hp:p≤l.length) (hl:l.length≤11760000) (hw:WfB l) (hs:∀ x,(rd x).2.1≤x.length)
  (hrd:∀ x:List Int,x.length≤l.length→WfB x→Ct Tryz.prog g [.c (.ptr 0 0)] [z05 x 0] (.tup [wpV (rd x).1,lv (.int .i64 (rd x).2.2)]) [z05 x (rd x).2.1] []):
  Ct Tryz.prog 51 [.c (.ptr 0 0),lv (.int .i64 n),lv (.bool b),.c (.fn (.func g) [] [])] [z2y e,z05 l p] (wpV (z1D none e l p (2,n,b) rd).1) [z2y (z1D none e l p (2,n,b) rd).2.2,z05 l (z1D none e l p (2,n,b) rd).2.1] []:=by
 have h:=zhM l p n b g rd hp hl hw hs hrd
 unfold z1D
 by_cases he:e=0
 ·subst he
  rw[if_pos rfl]
  generalize z0l none l p (2,n,b) rd=R at*
  obtain⟨r,q,f⟩:=R
  dsimp only at*
  rcases r with _ |⟨w1,w2⟩
  all_goals
   refine z00 Tryz.func51 rfl rfl rfl rfl rfl (fun E hn hb=>?_)
   repeat refine nx ?_
   exact rt1 []
 ·rw[if_neg he]
  refine z00 Tryz.func51 rfl rfl rfl rfl rfl (fun E hn hb=>?_)
  repeat refine nx ?_
  exact rt1 []
set_option maxHeartbeats 4000000 in
theorem zhO (l:List GnT) (hb1:∀ g ∈ l,GnB g) (hl:l.length≤16000000):Ct Tryz.prog 98 [gnV l] [] (lv (.bool (z1Z l))) [] []:=by
 have hml:(gnR l).length=l.length:=List.length_map ..
 unfold z1Z
 by_cases h0:l.length=0
 ·obtain rfl:=List.eq_nil_of_length_eq_zero h0
  refine z00 Tryz.func98 rfl rfl rfl rfl rfl (fun E hn hb=>?_)
  repeat refine nx ?_
  exact rt1 []
 by_cases h9:10000<l.length
 ·rw[decide_eq_false (by omega:¬ l.length≤10000),Bool.and_false,Bool.false_and]
  refine z00 Tryz.func98 rfl rfl rfl rfl rfl (fun E hn hb=>?_)
  repeat refine nx ?_
  exact rt1 []
 rw[decide_eq_true (by omega:0<l.length),decide_eq_true (by omega:l.length≤10000),Bool.true_and,Bool.true_and]
 refine z00 Tryz.func98 rfl rfl rfl rfl rfl (fun E hn hb=>?_)
 repeat refine nx ?_
 refine z06 rfl (by simp) (fun hc=>?_) (fun hc=>?_)
 ·exfalso
  rw[hml,show((l.length:Int)==0)=false by rw[beq_eq_false_iff_ne]; omega,show decide ((10000:Int)<(l.length:Int))=false by rw[decide_eq_false_iff_not]; omega] at hc
  cases hc
 clear hc
 repeat refine nx ?_
 rw[hml]
 refine z09 (St.le_of (l:= [(13,gnV l),(14,lv (.int .i64 (l.length:Int))),(15,lv (.int .i64 ((0:Nat):Int)))]) (h:= []) (by refine⟨?_,?_⟩<;>(repeat' (first | exact trivial | exact rfl | refine⟨?_,?_⟩))<;>first | exact rfl |(simp; done) | skip)) ?_
 refine z0h (ι:= {i:Nat//i≤l.length∧∀ j,j<i→z0F (l.getD j gn0)=true}) (fun i=>St.of [(13,gnV l),(14,lv (.int .i64 (l.length:Int))),(15,lv (.int .i64 (i.1:Int)))] []) (fun i=>l.length -i.1) (fun i=>?_) ⟨0,Nat.zero_le _,fun j hj=>by omega⟩
 obtain⟨i,hi,hu⟩:=i
 dsimp only
 by_cases hi2:i<l.length
 ·have hq:l.getD (i:Int).toNat default=l.getD i gn0:=rfl
  have hw:=z5a _ (hb1 _ (z1S (d:=gn0) hi2))
  by_cases ha:z0F (l.getD i gn0)=true
  ·rw[ha] at hw
   generalize hA:l.getD i gn0=g at*
   obtain⟨k,b,n⟩:=g
   repeat (first | refine nx ?_ | rw[hq])
   refine z07 ⟨i+1,hi2,fun j hj=>by
    by_cases e:j=i
    ·subst e; rw[hA]; exact ha
    ·exact hu j (by omega)⟩ (by dsimp only; omega) (St.le_of ⟨⟨rfl,rfl,rfl⟩,trivial⟩)
  ·rw[z80 hi2 ha]
   rw[Bool.eq_false_iff.2 ha] at hw
   generalize hA:l.getD i gn0=g at*
   obtain⟨k,b,n⟩:=g
   repeat (first | refine nx ?_ | rw[hq])
   exact rt1 []
 ·obtain rfl:i=l.length:=by omega
  rw[z9Y hu]
  repeat refine nx ?_
  exact rt1 []
theorem zeD (r:List AtT):z15 [r]=z0D r:=by
 unfold z15
 simp
structure WhB (w:WhT):Prop where
 l:w.1.length≤16000000
 g:∀ g ∈ w.1,GnB g
 s:w.2.length≤16000000
 a:∀ a ∈ w.2,AtB a
theorem zfT (w:WhT) (h:WhB w):Ct Tryz.prog 70 [lfV (whC w)] [] (lv (.bool (z2Q w))) [] []:=by
 obtain⟨g,r⟩:=w
 obtain⟨h1,h2,h3,h4⟩:=h
 dsimp only at h1 h2 h3 h4
 have hg:=zhO g h2 h1
 have hn1:=z7h [r] ⟨by simp,fun x hx=>by rw[List.mem_singleton.1 hx]; exact⟨h3,h4⟩⟩
 rw[zeD] at hn1
 have hml:(r.map atL).length=r.length:=List.length_map ..
 have hgl:(gnR g).length=g.length:=List.length_map ..
 unfold z2Q
 dsimp only
 generalize z1Z g=G at*
 generalize z0D r=S at*
 by_cases h0:0<r.length
 ·rw[if_pos h0]
  by_cases hg0:g.length=0
  ·obtain rfl:=List.eq_nil_of_length_eq_zero hg0
   refine z00 Tryz.func70 rfl rfl rfl rfl rfl (fun E hn hb=>?_)
   repeat (first | refine lgE hn ?_ | refine nx ?_)
   refine rt2 [] (congrArg (fun x=>lv (.bool x)) ?_) trivial
   simp
  ·refine z00 Tryz.func70 rfl rfl rfl rfl rfl (fun E hn hb=>?_)
   repeat (first | refine lgE hn ?_ | refine nx ?_)
   refine rt2 [] (congrArg (fun x=>lv (.bool x)) ?_) trivial
   rw[hgl,show((g.length:Int)==0)=false by rw[beq_eq_false_iff_ne]; omega,decide_eq_false hg0]
   rfl
 ·rw[if_neg h0]
  obtain rfl:r= []:=List.eq_nil_of_length_eq_zero (by omega)
  refine z00 Tryz.func70 rfl rfl rfl rfl rfl (fun E hn hb=>?_)
  repeat refine nx ?_
  exact rt1 []
abbrev z4M:Option WhT→Prop
 | none=>True
 | some w=>WhB w
theorem zhP (o:Option WhT) (l:List Int) (h:z4M o) (hl:l.length≤16000000):Ct Tryz.prog 86 [wpV o,I64 l] [] (lv (.bool (z5q o&&z0Z l))) [] []:=by
 have hr:=zgl l hl
 cases o with
 | none=>
   show Ct _ _ [.c (.lf (.v (.pointer none))),I64 l] _ _ _ _
   by_cases h0:l.length=0
   ·obtain rfl:=List.eq_nil_of_length_eq_zero h0
    refine z00 Tryz.func86 rfl rfl rfl rfl rfl (fun E hn hb=>?_)
    repeat (first | refine nx ?_ | refine wgF (lv (.bool false)) hn ?_)
    exact rt1 []
   ·rw[decide_eq_true (by omega:0<l.length),Bool.true_and] at hr
    have hz:((l.length:Int)==0)=false:=by rw[beq_eq_false_iff_ne]; omega
    generalize z0Z l=R at*
    refine z00 Tryz.func86 rfl rfl rfl rfl rfl (fun E hn hb=>?_)
    repeat (first | refine nx ?_ | refine wgF (lv (.bool false)) hn ?_)
    refine rt2 [] (congrArg (fun x=>lv (.bool x)) ?_) trivial
    rw[hz]
    rfl
 | some w=>
   have hw:=zfT w h
   show Ct _ _ [lfV (whC w),I64 l] _ (lv (.bool (z2Q w&&z0Z l))) _ _
   generalize z2Q w=W at*
   obtain⟨w1,w2⟩:=w
   by_cases h0:l.length=0
   ·obtain rfl:=List.eq_nil_of_length_eq_zero h0
    refine z00 Tryz.func86 rfl rfl rfl rfl rfl (fun E hn hb=>?_)
    repeat refine nx ?_
    refine rt2 [] (congrArg (fun x=>lv (.bool x)) ?_) trivial
    cases W<;>simp[z0Z,z30]
   ·rw[decide_eq_true (by omega:0<l.length),Bool.true_and] at hr
    have hz:((l.length:Int)==0)=false:=by rw[beq_eq_false_iff_ne]; omega
    generalize z0Z l=R at*
    cases W with
    | true=>
      refine z00 Tryz.func86 rfl rfl rfl rfl rfl (fun E hn hb=>?_)
      repeat refine nx ?_
      refine rt2 [] (congrArg (fun x=>lv (.bool x)) ?_) trivial
      rw[hz]
      rfl
    | false=>
      refine z00 Tryz.func86 rfl rfl rfl rfl rfl (fun E hn hb=>?_)
      repeat (first | refine nx ?_ | refine wgF (lv (.bool false)) hn ?_)
      exact rt1 []
end Go.Proofs.YtaagjnlkinojcaaGreat

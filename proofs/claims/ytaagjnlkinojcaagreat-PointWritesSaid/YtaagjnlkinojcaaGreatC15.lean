/-
  Chapter 02: a whole. The conditions: right tags, at most a million bytes of contents.
-/
import Derived.Test.YtaagjnlkinojcaaGreatC12
namespace Go.Proofs.YtaagjnlkinojcaaGreat
set_option linter.unusedSimpArgs false
set_option linter.unusedVariables false
open Go.Sx
set_option maxRecDepth 10000
def z0y (m:Nat):Nat→Nat→List Int
 | 0,_=> []
 | k+1,n=>if n=0 then [] else((n%m:Nat):Int)::z0y m k (n/m)
theorem z2g (m:Nat):∀(k n:Nat),(z0y m k n).length≤k
 | 0,n=>by simp[z0y]
 | k+1,n=>by
   have:=z2g m k (n/m)
   unfold z0y
   split<;>simp<;>omega
theorem zag (m:Nat) (h0:0<m) (hm:m≤256):∀(k n:Nat),WfB (z0y m k n)
 | 0,n=>fun x h=>by simp[z0y] at h
 | k+1,n=>by
   have ih:=zag m h0 hm k (n/m)
   have:=Nat.mod_lt n h0
   unfold z0y
   split
   ·exact fun x h=>by simp at h
   ·intro x hx
    cases hx with
    | head=>omega
    | tail _ hx=>exact ih x hx
structure DS where
 n:Nat
 k:Nat
 acc:List Int
theorem zeV (n:Nat) (hn1:n≤100000000):
  Ct Tryz.prog 218 [lv (.int .i64 (n:Int)),lv (.int .i64 7)] [] (.c (.own 0 1 0 (z0y 128 5 n).length)) [] [.row (.ints .u8 (z0y 128 5 n).reverse)]:=by
 obtain⟨D,hD⟩:∃ D,z0y 128 5 n=D:=⟨_,rfl⟩
 have hDl:D.length≤5:=by rw[←hD]; exact z2g _ _ _
 rw[hD]
 refine z00 Tryz.func218 rfl rfl rfl rfl rfl (fun E hn hb=>?_)
 repeat (refine nst ?_)
 refine z1v rfl rfl rfl (by rw[hn]; rfl) rfl (by exact vcs) rfl rfl ?_
 repeat (refine nst ?_)
 refine z1v rfl rfl rfl (by rw[hn]; rfl) rfl (by exact vcs) rfl rfl ?_
 repeat (refine nst ?_)
 refine z0E rfl rfl rfl (by rw[hn]; rfl) rfl zbR ?_
 repeat (refine nst ?_)
 refine z7H (fun a w h=>SR.cell_nil (cs:= [.lf (.v (.slice none 0 0))]) (cs':= [.own 900 1 0 0]) 69 0 900 rfl rfl rfl rfl rfl h) ?_
 refine z09 (St.le_of (l:= [(2,.c (.ptr 66 0)),(3,.c (.ptr 67 0)),(5,.c (.ptr 69 0)),(6,.c (.fn (.func 231) [] [.ptr 69 0,.ptr 66 0,.ptr 67 0]))]) (h:= [(66,iB (n:Int)),(67,iB 7),(69,.cells [.own 900 1 0 ([]:List Int).length]),(900,.row (.ints .u8 []))]) (by refine⟨?_,?_⟩<;>(repeat' (first | exact trivial | exact rfl | refine⟨?_,?_⟩))<;>first | exact rfl |(simp; done) | skip)) ?_
 refine z0k (ι:= {s:DS//s.acc++z0y 128 s.k s.n=D∧s.n≤100000000∧s.n<128^s.k∧s.acc.length≤5}) (fun s=>St.of [(2,.c (.ptr 66 0)),(3,.c (.ptr 67 0)),(5,.c (.ptr 69 0)),(6,.c (.fn (.func 231) [] [.ptr 69 0,.ptr 66 0,.ptr 67 0]))] [(66,iB (s.1.n:Int)),(67,iB 7),(69,.cells [.own 900 1 0 s.1.acc.length]),(900,.row (.ints .u8 s.1.acc))]) (fun s=>s.1.k) (fun s=>?_) ⟨⟨n,5,[]⟩,hD,hn1,by dsimp only; omega,by simp⟩
 obtain⟨⟨n,k,acc⟩,h1,h2,h3,h4⟩:=s
 dsimp only at h1 h2 h3 h4 ⊢
 clear hn1 hD
 repeat (refine nst ?_)
 refine z06 rfl (by simp) (fun hc=>?_) (fun hc=>?_)
 ·have hnp:0<n:=by simpa using hc
  obtain⟨k,rfl⟩:∃ k',k=k'+1:=by
   cases k with
   | zero=>simp at h3; omega
   | succ k=>exact⟨k,rfl⟩
  have hcl:=zgF acc (n:Int) (by omega) (by omega)
  have e1:((n:Int)%128)=((n%128:Nat):Int):=by omega
  rw[e1] at hcl
  unfold z0y at h1
  rw[if_neg (by omega)] at h1
  have h5:(acc++ [((n%128:Nat):Int)])++z0y 128 k (n/128)=D:=by rw[List.append_assoc]; exact h1
  have h6:(acc++ [((n%128:Nat):Int)]).length≤5:=by
   have:=congrArg List.length h5
   simp at this ⊢
   omega
  have h7:n/128<128^k:=by
   rw[Nat.pow_succ] at h3
   exact Nat.div_lt_of_lt_mul (by rw[Nat.mul_comm]; exact h3)
  have e8:(acc++ [((n%128:Nat):Int)]).length=acc.length+1:=by simp
  generalize acc++ [((n%128:Nat):Int)]=acc2 at*
  repeat (refine nst ?_)
  refine z2D [69,66,67,900] hcl rfl rfl (by rw[hn]; rfl) rfl rfl (by trivial) ⟨rfl,⟨rfl,rfl,rfl,rfl⟩,(by simp[z0b]),rfl⟩ ?_
  repeat (refine nst ?_)
  have e9:(n:Int)/2^min (Int.toNat 7) IntKind.i64.bits=((n/128:Nat):Int):=by
   have:min (Int.toNat 7) IntKind.i64.bits=7:=by decide
   rw[this]
   omega
  rw[e9]
  refine z0m rfl rfl rfl rfl rfl (by exact vcs) rfl rfl rfl (by rw[z3T]; rfl) (by rw[z7z]; rfl) rfl rfl ?_
  repeat (refine nst ?_)
  refine z41 (fun a w h=>SR.mv 78 900 rfl rfl rfl rfl rfl h) ?_
  refine z08 ⟨⟨n/128,k,acc2⟩,h5,by dsimp only; omega,h7,h6⟩ (by dsimp only; omega) (St.le_of ⟨⟨rfl,rfl,rfl,rfl⟩,⟨rfl,rfl,?_,rfl⟩⟩)
  dsimp only
  rw[e8]
  rfl
 ·have hn0:n=0:=by simp at hc; omega
  subst hn0
  have e1:z0y 128 k 0= []:=by cases k<;>rfl
  rw[e1,List.append_nil] at h1
  subst h1
  have hrv:=z6Q acc (by omega)
  repeat (refine nst ?_)
  refine z0w [900] hrv rfl rfl (by rw[hn]; rfl) rfl rfl (by trivial) ⟨rfl,rfl,(by simp[z0b]),rfl⟩ ?_
  repeat (refine nst ?_)
  exact rt1 [900]
theorem zeW (n:Nat) (hn1:n≤100000000):
  Ct Tryz.prog 218 [lv (.int .i64 (n:Int)),lv (.int .i64 8)] [] (.c (.own 0 1 0 (z0y 256 5 n).length)) [] [.row (.ints .u8 (z0y 256 5 n).reverse)]:=by
 obtain⟨D,hD⟩:∃ D,z0y 256 5 n=D:=⟨_,rfl⟩
 have hDl:D.length≤5:=by rw[←hD]; exact z2g _ _ _
 rw[hD]
 refine z00 Tryz.func218 rfl rfl rfl rfl rfl (fun E hn hb=>?_)
 repeat (refine nst ?_)
 refine z1v rfl rfl rfl (by rw[hn]; rfl) rfl (by exact vcs) rfl rfl ?_
 repeat (refine nst ?_)
 refine z1v rfl rfl rfl (by rw[hn]; rfl) rfl (by exact vcs) rfl rfl ?_
 repeat (refine nst ?_)
 refine z0E rfl rfl rfl (by rw[hn]; rfl) rfl zbR ?_
 repeat (refine nst ?_)
 refine z7H (fun a w h=>SR.cell_nil (cs:= [.lf (.v (.slice none 0 0))]) (cs':= [.own 900 1 0 0]) 69 0 900 rfl rfl rfl rfl rfl h) ?_
 refine z09 (St.le_of (l:= [(2,.c (.ptr 66 0)),(3,.c (.ptr 67 0)),(5,.c (.ptr 69 0)),(6,.c (.fn (.func 231) [] [.ptr 69 0,.ptr 66 0,.ptr 67 0]))]) (h:= [(66,iB (n:Int)),(67,iB 8),(69,.cells [.own 900 1 0 ([]:List Int).length]),(900,.row (.ints .u8 []))]) (by refine⟨?_,?_⟩<;>(repeat' (first | exact trivial | exact rfl | refine⟨?_,?_⟩))<;>first | exact rfl |(simp; done) | skip)) ?_
 refine z0k (ι:= {s:DS//s.acc++z0y 256 s.k s.n=D∧s.n≤100000000∧s.n<256^s.k∧s.acc.length≤5}) (fun s=>St.of [(2,.c (.ptr 66 0)),(3,.c (.ptr 67 0)),(5,.c (.ptr 69 0)),(6,.c (.fn (.func 231) [] [.ptr 69 0,.ptr 66 0,.ptr 67 0]))] [(66,iB (s.1.n:Int)),(67,iB 8),(69,.cells [.own 900 1 0 s.1.acc.length]),(900,.row (.ints .u8 s.1.acc))]) (fun s=>s.1.k) (fun s=>?_) ⟨⟨n,5,[]⟩,hD,hn1,by dsimp only; omega,by simp⟩
 obtain⟨⟨n,k,acc⟩,h1,h2,h3,h4⟩:=s
 dsimp only at h1 h2 h3 h4 ⊢
 clear hn1 hD
 repeat (refine nst ?_)
 refine z06 rfl (by simp) (fun hc=>?_) (fun hc=>?_)
 ·have hnp:0<n:=by simpa using hc
  obtain⟨k,rfl⟩:∃ k',k=k'+1:=by
   cases k with
   | zero=>simp at h3; omega
   | succ k=>exact⟨k,rfl⟩
  have hcl:=zgG acc (n:Int) (by omega) (by omega)
  have e1:((n:Int)%256)=((n%256:Nat):Int):=by omega
  rw[e1] at hcl
  unfold z0y at h1
  rw[if_neg (by omega)] at h1
  have h5:(acc++ [((n%256:Nat):Int)])++z0y 256 k (n/256)=D:=by rw[List.append_assoc]; exact h1
  have h6:(acc++ [((n%256:Nat):Int)]).length≤5:=by
   have:=congrArg List.length h5
   simp at this ⊢
   omega
  have h7:n/256<256^k:=by
   rw[Nat.pow_succ] at h3
   exact Nat.div_lt_of_lt_mul (by rw[Nat.mul_comm]; exact h3)
  have e8:(acc++ [((n%256:Nat):Int)]).length=acc.length+1:=by simp
  generalize acc++ [((n%256:Nat):Int)]=acc2 at*
  repeat (refine nst ?_)
  refine z2D [69,66,67,900] hcl rfl rfl (by rw[hn]; rfl) rfl rfl (by trivial) ⟨rfl,⟨rfl,rfl,rfl,rfl⟩,(by simp[z0b]),rfl⟩ ?_
  repeat (refine nst ?_)
  have e9:(n:Int)/2^min (Int.toNat 8) IntKind.i64.bits=((n/256:Nat):Int):=by
   have:min (Int.toNat 8) IntKind.i64.bits=8:=by decide
   rw[this]
   omega
  rw[e9]
  refine z0m rfl rfl rfl rfl rfl (by exact vcs) rfl rfl rfl (by rw[z3T]; rfl) (by rw[z7z]; rfl) rfl rfl ?_
  repeat (refine nst ?_)
  refine z41 (fun a w h=>SR.mv 78 900 rfl rfl rfl rfl rfl h) ?_
  refine z08 ⟨⟨n/256,k,acc2⟩,h5,by dsimp only; omega,h7,h6⟩ (by dsimp only; omega) (St.le_of ⟨⟨rfl,rfl,rfl,rfl⟩,⟨rfl,rfl,?_,rfl⟩⟩)
  dsimp only
  rw[e8]
  rfl
 ·have hn0:n=0:=by simp at hc; omega
  subst hn0
  have e1:z0y 256 k 0= []:=by cases k<;>rfl
  rw[e1,List.append_nil] at h1
  subst h1
  have hrv:=z6Q acc (by omega)
  repeat (refine nst ?_)
  refine z0w [900] hrv rfl rfl (by rw[hn]; rfl) rfl rfl (by trivial) ⟨rfl,rfl,(by simp[z0b]),rfl⟩ ?_
  repeat (refine nst ?_)
  exact rt1 [900]
theorem zbU {c n:Int} (hc:c ∈ [0,32,64,96,128,160,192,224]) (hn:0≤n∧n<32):IntKind.u8.wrap (BitVec.ofInt IntKind.u8.bits c||| BitVec.ofInt IntKind.u8.bits n).toNat=c+n:=by
 have key:∀ k:Fin 8,∀ m:Fin 32,IntKind.u8.wrap (BitVec.ofInt IntKind.u8.bits (32*((k.val:Nat):Int))||| BitVec.ofInt IntKind.u8.bits ((m.val:Nat):Int)).toNat=32*((k.val:Nat):Int)+((m.val:Nat):Int):=by decide+kernel
 have hm:=fun k:Fin 8=>key k ⟨n.toNat,by omega⟩
 simp only[show((n.toNat:Nat):Int)=n by omega] at hm
 simp only[List.mem_cons,List.not_mem_nil,or_false] at hc
 rcases hc with rfl | rfl | rfl | rfl | rfl | rfl | rfl | rfl
 ·exact hm 0
 ·exact hm 1
 ·exact hm 2
 ·exact hm 3
 ·exact hm 4
 ·exact hm 5
 ·exact hm 6
 ·exact hm 7
theorem zk9 {n:Int} (hn:0≤n∧n<128):IntKind.u8.wrap (BitVec.ofInt IntKind.u8.bits n||| BitVec.ofInt IntKind.u8.bits 128).toNat=n+128∧IntKind.u8.wrap (BitVec.ofInt IntKind.u8.bits 128||| BitVec.ofInt IntKind.u8.bits n).toNat=128+n:=by
 have key:∀ m:Fin 128,IntKind.u8.wrap (BitVec.ofInt IntKind.u8.bits ((m.val:Nat):Int)||| BitVec.ofInt IntKind.u8.bits 128).toNat=((m.val:Nat):Int)+128∧IntKind.u8.wrap (BitVec.ofInt IntKind.u8.bits 128||| BitVec.ofInt IntKind.u8.bits ((m.val:Nat):Int)).toNat=128+((m.val:Nat):Int):=by decide+kernel
 have hm:=key ⟨n.toNat,by omega⟩
 simpa only[show((n.toNat:Nat):Int)=n by omega] using hm
def z1h (t:z0h):Int:=64*t.1+cond t.2.2 32 0
theorem z67 {t:z0h} (h:z0q t=true):z1h t ∈ [0,32,64,96,128,160,192,224]:=by
 have h2:0≤t.1∧t.1≤3:=by simp[z0q] at h; omega
 unfold z1h
 have:t.1=0∨t.1=1∨t.1=2∨t.1=3:=by omega
 rcases this with e | e | e | e<;>rw[e]<;>cases t.2.2<;>decide
theorem zgd (t:z0h) (h:z0q t=true):Ct Tryz.prog 217 [z2c t] [] (lv (.int .u8 (z1h t))) [] []:=by
 have h2:0≤t.1∧t.1≤3:=by simp[z0q] at h; omega
 have e6:t.1*2^min (Int.toNat 6) IntKind.i64.bits=64*t.1:=by
  have:min (Int.toNat 6) IntKind.i64.bits=6:=by decide
  rw[this,Int.mul_comm]
  rfl
 refine z00 Tryz.func217 rfl rfl rfl rfl rfl (fun E hn hb=>?_)
 repeat (refine nst ?_)
 refine z1v rfl rfl rfl (by rw[hn]; rfl) rfl (by exact vcs) rfl rfl ?_
 repeat (refine nst ?_)
 rw[e6]
 have e:z1h t=64*t.1+cond t.2.2 32 0:=rfl
 refine z06 rfl (by simp) (fun h1=>?_) (fun h1=>?_)
 ·have h1':t.2.2=true:=h1
  have eo:IntKind.u8.wrap (BitVec.ofInt IntKind.u8.bits (64*t.1)||| BitVec.ofInt IntKind.u8.bits 32).toNat=z1h t:=by
   rw[e,h1']
   have:t.1=0∨t.1=1∨t.1=2∨t.1=3:=by omega
   rcases this with e | e | e | e<;>rw[e]<;>decide+kernel
  repeat (refine nst ?_)
  rw[eo]
  repeat (refine nst ?_)
  exact rt1 []
 ·have h1':t.2.2=false:=h1
  rw[h1'] at e
  have e':z1h t=64*t.1:=by rw[e]; exact Int.add_zero _
  rw[e']
  repeat (refine nst ?_)
  exact rt1 []
def hiL (D:List Int):List Int:=(D.take (D.length -1)).map (· +128)++D.drop (D.length -1)
def tgL (t:z0h):List Int:=if t.2.1<31 then [z1h t+t.2.1] else(z1h t+31)::hiL (z0y 128 5 t.2.1.toNat).reverse
def hiU (D:List Int) (i:Nat):List Int:=(D.take i).map (· +128)++D.drop i
theorem zko (D:List Int) (i:Nat):(hiU D i).length=D.length:=by simp[hiU]; omega
theorem zkp (D:List Int) (i:Nat) (h:i<D.length):(hiU D i).getD i 0=D.getD i 0:=by
 have:((D.take i).map (· +128)).length=i:=by simp; omega
 simp only[hiU,List.getD_eq_getElem?_getD]
 rw[List.getElem?_append_right (by omega),this,Nat.sub_self,List.getElem?_drop,Nat.add_zero]
theorem zkq (D:List Int) (i:Nat) (h:i<D.length):(hiU D i).set i (D.getD i 0+128)=hiU D (i+1):=by
 have hl:((D.take i).map (· +128)).length=i:=by simp; omega
 unfold hiU
 rw[List.set_append_right _ _ (by omega),hl,Nat.sub_self,List.drop_eq_getElem_cons h,List.set_cons_zero,List.take_succ_eq_append_getElem h,List.map_append,List.append_assoc]
 simp[h]
theorem z8i (m:Nat) (h0:0<m):∀(k n:Nat),∀ x ∈ z0y m k n,0≤x∧x<(m:Int)
 | 0,n=>fun x h=>by simp[z0y] at h
 | k+1,n=>by
   have ih:=z8i m h0 k (n/m)
   have:=Nat.mod_lt n h0
   unfold z0y
   split
   ·exact fun x h=>by simp at h
   ·intro x hx
    cases hx with
    | head=>omega
    | tail _ hx=>exact ih x hx
theorem z8j (D:List Int):(hiL D).length=D.length:=by simp[hiL]
set_option maxHeartbeats 4000000 in
theorem zge (t:z0h) (h:z0q t=true):Ct Tryz.prog 191 [z2c t] [] (.tup [.c (.own 0 1 0 (tgL t).length),lv (.int .i64 0)]) [] [.row (.ints .u8 (tgL t))]:=by
 have h2:0≤t.2.1∧t.2.1<2097152:=by simp[z0q] at h; omega
 have hr:=z82 t
 rw[h] at hr
 have hf:=zgd t h
 have hfm:=z67 h
 have hfi:0≤z1h t∧z1h t≤224:=by
  simp only[List.mem_cons,List.not_mem_nil,or_false] at hfm
  omega
 have hT:tgL t=if t.2.1<31 then [z1h t+t.2.1] else(z1h t+31)::hiL (z0y 128 5 t.2.1.toNat).reverse:=rfl
 generalize tgL t=T at*
 generalize z1h t=c at*
 refine z00 Tryz.func191 rfl rfl rfl rfl rfl (fun E hn hb=>?_)
 repeat (refine nst ?_)
 refine z1v rfl rfl rfl (by rw[hn]; rfl) rfl (by exact vcs) rfl rfl ?_
 repeat (refine nst ?_)
 refine z1C (hr) rfl rfl rfl (by rw[hn]; rfl) rfl rfl (by exact vcs) rfl rfl rfl ?_
 repeat (refine nst ?_)
 refine z06 rfl (by simp) (fun h1=>?_) (fun h1=>?_)
 ·simp at h1
 repeat (refine nst ?_)
 refine z06 rfl (by simp) (fun h3=>?_) (fun h3=>?_)
 ·have h3':t.2.1<31:=by simpa using h3
  rw[if_pos h3'] at hT
  subst hT
  have eo:=zbU hfm (n:=t.2.1) (by omega)
  repeat (refine nst ?_)
  refine z2V 5 (by kernel_rfl) (by kernel_rfl) (by kernel_rfl) (by rw[hn]; rfl) rfl rfl ?_
  repeat (first | refine dp1 ?_ | refine dg1 ?_ | refine z1i ?_)
  refine z2y rfl (z1N (z6i (hf) rfl rfl rfl (by exact vcs) rfl rfl rfl) rfl) ?_
  repeat (first | refine dp1 ?_ | refine dg1 ?_ | refine z1i ?_)
  repeat (refine nst ?_)
  rw[eo]
  refine z1X rfl rfl rfl (by rw[hn]; rfl) (z0n Tryz.underlying28 rfl rfl) (z2R) (by exact vcs) ⟨by decide,rfl⟩ ?_
  repeat (refine nst ?_)
  exact rt1 [82]
 ·have h3':¬ t.2.1<31:=by simpa using h3
  rw[if_neg h3'] at hT
  obtain⟨n,hn'⟩:∃ n:Nat,t.2.1=(n:Int):=⟨t.2.1.toNat,by omega⟩
  have hdg:=zeV n (by omega)
  rw[hn',Int.toNat_natCast] at hT
  have hDl:(z0y 128 5 n).reverse.length=(z0y 128 5 n).length:=by simp
  have hDw:∀ x ∈ (z0y 128 5 n).reverse,0≤x∧x<128:=fun x hx=>z8i 128 (by decide) 5 n x (List.mem_reverse.1 hx)
  rw[←hDl] at hdg
  have hD5:(z0y 128 5 n).reverse.length≤5:=by rw[hDl]; exact z2g _ _ _
  generalize (z0y 128 5 n).reverse=D at*
  rw[←hn'] at hdg
  repeat (refine nst ?_)
  refine z0w [] hdg rfl rfl (by rw[hn]; rfl) rfl rfl (by trivial) ⟨rfl,trivial,trivial,rfl⟩ ?_
  repeat (refine nst ?_)
  have S0:hiU D 0=D:=by simp[hiU]
  refine z09 (τ:=St.of [(1,.c (.ptr 65 0)),(4,.c (.own 85 1 0 D.length)),(22,.c (.own 85 1 0 D.length)),(24,lv (.int .i64 ((D.length:Int) -1))),(25,lv (.int .i64 ((0:Nat):Int)))] [(65,z3O t),(85,.row (.ints .u8 (hiU D 0)))]) (St.le_of ⟨⟨rfl,rfl,rfl,rfl,rfl⟩,⟨rfl,by rw[S0]; rfl⟩⟩) ?_
  refine z0k (ι:= {i:Nat//i≤D.length -1}) (fun i=>St.of [(1,.c (.ptr 65 0)),(4,.c (.own 85 1 0 D.length)),(22,.c (.own 85 1 0 D.length)),(24,lv (.int .i64 ((D.length:Int) -1))),(25,lv (.int .i64 (i.1:Int)))] [(65,z3O t),(85,.row (.ints .u8 (hiU D i.1)))]) (fun i=>D.length -i.1) (fun i=>?_) ⟨0,by omega⟩
  obtain⟨i,hi⟩:=i
  dsimp only
  have hul:=zko D i
  repeat (refine nst ?_)
  refine z06 rfl (by simp) (fun hc=>?_) (fun hc=>?_)
  ·have hil:i<D.length:=by simp at hc; omega
   have hg:(hiU D i).getD (0+(i:Int).toNat) 0=D.getD i 0:=by rw[Nat.zero_add,Int.toNat_natCast,zkp D i hil]
   have hx:0≤D.getD i 0∧D.getD i 0<128:=by
    rw[List.getD_eq_getElem?_getD,List.getElem?_eq_getElem hil]
    exact hDw _ (List.getElem_mem hil)
   have eo:=(zk9 hx).1
   have hset:=zkq D i hil
   repeat (refine nst ?_)
   rw[hg,eo]
   refine zcb rfl rfl rfl rfl rfl (by exact vcs) rfl (by rw[zdC]) (by first |(simp; done) |(simp; omega) |(simp at*; omega)) ?_
   repeat (refine nst ?_)
   refine z08 ⟨i+1,by simp at hc; omega⟩ (by dsimp only; omega) (St.le_of ⟨⟨rfl,rfl,rfl,rfl,rfl⟩,⟨rfl,?_⟩⟩)
   dsimp only
   rw[←hset]
   show Blk.row (.ints .u8 ((hiU D i).set (0+(i:Int).toNat) (D.getD i 0+128)))=_
   rw[Nat.zero_add,Int.toNat_natCast]
  ·have hie:i=D.length -1:=by simp at hc; omega
   have hU:hiU D i=hiL D:=by rw[hie]; rfl
   have hLl:=z8j D
   rw[hU]
   clear hU hul
   have eo:=zbU hfm (n:=31) (by omega)
   generalize hiL D=L at*
   subst hT
   repeat (refine nst ?_)
   refine z1C (hf) rfl rfl rfl (by rw[hn]; rfl) rfl rfl (by exact vcs) rfl rfl rfl ?_
   repeat (refine nst ?_)
   rw[eo]
   refine z1X rfl rfl rfl (by rw[hn]; rfl) (z0n Tryz.underlying28 rfl rfl) (z2R) (by exact vcs) ⟨by decide,rfl⟩ ?_
   repeat (refine nst ?_)
   refine z2I rfl rfl rfl rfl rfl rfl (by rw[hn]; rfl) (z0n Tryz.underlying28 rfl rfl) rfl rfl rfl rfl (by exact vcs) (by first | rfl |(simp; done) |(simp; omega)) ⟨by first |(simp; done) |(simp; omega) |(simp at*; omega),by decide⟩ ?_
   repeat (refine nst ?_)
   have eL:List.take D.length L=L:=List.take_of_length_le (by omega)
   rw[eL]
   exact rt1 [102]
def z0I (n:Nat):List Int:=if n<128 then [(n:Int)] else(128+((z0y 256 5 n).length:Int))::(z0y 256 5 n).reverse
theorem zkr (n:Nat) (h:n≤16777216):Ct Tryz.prog 192 [lv (.int .i64 (n:Int))] [] (.tup [.c (.own 0 1 0 (z0I n).length),lv (.int .i64 0)]) [] [.row (.ints .u8 (z0I n))]:=by
 have hT:z0I n=if n<128 then [(n:Int)] else(128+((z0y 256 5 n).length:Int))::(z0y 256 5 n).reverse:=rfl
 generalize z0I n=T at*
 refine z00 Tryz.func192 rfl rfl rfl rfl rfl (fun E hn hb=>?_)
 repeat (refine nst ?_)
 refine z06 rfl (by simp) (fun h1=>?_) (fun h1=>?_)
 ·simp at h1; omega
 repeat (refine nst ?_)
 refine z06 rfl (by simp) (fun h2=>?_) (fun h2=>?_)
 ·simp at h2; omega
 repeat (refine nst ?_)
 refine z06 rfl (by simp) (fun h3=>?_) (fun h3=>?_)
 ·have h3':n<128:=by simp at h3; omega
  rw[if_pos h3'] at hT
  subst hT
  repeat (refine nst ?_)
  refine z1X rfl rfl rfl (by rw[hn]; rfl) (z0n Tryz.underlying28 rfl rfl) (z2R) (by exact vcs) ⟨by decide,rfl⟩ ?_
  repeat (refine nst ?_)
  exact rt1 [80]
 ·have h3':¬ n<128:=by simp at h3; omega
  rw[if_neg h3'] at hT
  have hdg:=zeW n (by omega)
  have hD5:=z2g 256 5 n
  have hDl:(z0y 256 5 n).reverse.length=(z0y 256 5 n).length:=by simp
  rw[←hDl] at hT hdg hD5
  generalize (z0y 256 5 n).reverse=D at*
  subst hT
  have eo:=(zk9 (n:=(D.length:Int)) (by omega)).2
  repeat (refine nst ?_)
  refine z0w [] hdg rfl rfl (by rw[hn]; rfl) rfl rfl (by trivial) ⟨rfl,trivial,trivial,rfl⟩ ?_
  repeat (refine nst ?_)
  rw[eo]
  refine z1X rfl rfl rfl (by rw[hn]; rfl) (z0n Tryz.underlying28 rfl rfl) (z2R) (by exact vcs) ⟨by decide,rfl⟩ ?_
  repeat (refine nst ?_)
  refine z2I rfl rfl rfl rfl rfl rfl (by rw[hn]; rfl) (z0n Tryz.underlying28 rfl rfl) rfl rfl rfl rfl (by exact vcs) (by first | rfl |(simp; done) |(simp; omega)) ⟨by first |(simp; done) |(simp; omega) |(simp at*; omega),by decide⟩ ?_
  repeat (refine nst ?_)
  have eL:List.take D.length D=D:=List.take_length
  rw[eL]
  exact rt1 [87]
abbrev z2M (bs:List (List Int)):Av:= .c (.lf (.recs 1 (bs.map fun b=> [.ints .u8 b])))
def z05 (t:z0h) (b:List Int):List Int:=tgL t++z0I b.length++b
set_option maxHeartbeats 4000000 in
theorem zic (t:z0h) (bs:List (List Int)) (h:z0q t=true) (hbl:bs.length≤12000000) (hl:bs.flatten.length≤16000000):
  Ct Tryz.prog 158 [z2c t,z2M bs] [] (.tup [.c (.own 0 1 0 (z05 t bs.flatten).length),lv (.int .i64 0)]) [] [.row (.ints .u8 (z05 t bs.flatten))]:=by
 have htb:=zge t h
 have hlb:=zkr bs.flatten.length (by omega)
 have hW:z05 t bs.flatten=tgL t++z0I bs.flatten.length++bs.flatten:=rfl
 have hT5:(tgL t).length≤10:=by
  have:=z2g 128 5 t.2.1.toNat
  unfold tgL
  split
  ·simp
  ·simp[z8j]; omega
 have hL5:(z0I bs.flatten.length).length≤10:=by
  generalize bs.flatten.length=n
  have:=z2g 256 5 n
  unfold z0I
  split
  ·simp
  ·simp; omega
 generalize z05 t bs.flatten=R at*
 generalize z0I bs.flatten.length=D at*
 generalize tgL t=T at*
 have hnext:∀ i,(h:i<bs.length)→(bs.take (i+1)).flatten=(bs.take i).flatten++bs[i]∧(bs.take (i+1)).flatten.length≤bs.flatten.length:=by
  intro i h
  refine⟨by rw[List.take_succ_eq_append_getElem h,List.flatten_append,List.flatten_cons,List.flatten_nil,List.append_nil],?_⟩
  have:=congrArg List.length (congrArg List.flatten (List.take_append_drop (i+1) bs))
  simp only[List.flatten_append,List.length_append] at this
  omega
 have hidx:∀ i,(h:i<bs.length)→(bs.map fun b=> [Leaf.ints .u8 b]).getD (i:Int).toNat []= [Leaf.ints .u8 bs[i]]:=by
  intro i h
  rw[Int.toNat_natCast,List.getD_eq_getElem?_getD,List.getElem?_map,List.getElem?_eq_getElem h]
  rfl
 have hlm:((bs.map fun b=> [Leaf.ints .u8 b]).length:Int)=(bs.length:Int):=by simp
 refine z00 Tryz.func158 rfl rfl rfl rfl rfl (fun E hn hb=>?_)
 repeat (refine nst ?_)
 refine z1v rfl rfl rfl (by rw[hn]; rfl) rfl (by exact vcs) rfl rfl ?_
 repeat (refine nst ?_)
 refine z0w [] htb rfl rfl (by rw[hn]; rfl) rfl rfl (by trivial) ⟨rfl,trivial,trivial,rfl⟩ ?_
 repeat (refine nst ?_)
 refine z06 rfl (by simp) (fun h1=>?_) (fun h1=>?_)
 ·simp at h1
 repeat (refine nst ?_)
 rw[hlm]
 refine z09 (St.le_of (l:= [(1,z2M bs),(6,.c (.own 81 1 0 T.length)),(8,lv (.int .i64 (((bs.take 0).flatten.length:Nat):Int))),(23,z2M bs),(24,lv (.int .i64 (bs.length:Int))),(25,lv (.int .i64 ((0:Nat):Int)))]) (h:= [(81,.row (.ints .u8 T))]) (by refine⟨?_,?_⟩<;>(repeat' (first | exact trivial | exact rfl | refine⟨?_,?_⟩))<;>first | exact rfl |(simp; done) | skip)) ?_
 refine z0k (ι:= {i:Nat//i≤bs.length}) (fun i=>St.of [(1,z2M bs),(6,.c (.own 81 1 0 T.length)),(8,lv (.int .i64 (((bs.take i.1).flatten.length:Nat):Int))),(23,z2M bs),(24,lv (.int .i64 (bs.length:Int))),(25,lv (.int .i64 (i.1:Int)))] [(81,.row (.ints .u8 T))]) (fun i=>bs.length -i.1) (fun i=>?_) ⟨0,by omega⟩
 obtain⟨i,hi⟩:=i
 dsimp only
 repeat (refine nst ?_)
 refine z06 rfl (by simp) (fun hc=>?_) (fun hc=>?_)
 ·have hib:i<bs.length:=by simpa using hc
  obtain⟨m1,m2⟩:=hnext i hib
  have hx:=hidx i hib
  rw[m1] at m2
  have eN:(((bs.take i).flatten.length:Nat):Int)+(bs[i].length:Int)=(((bs.take (i+1)).flatten.length:Nat):Int):=by rw[m1]; simp
  have m3:(((bs.take (i+1)).flatten.length:Nat):Int)≤16777216:=by rw[m1]; omega
  generalize bs[i]=b at*
  repeat (refine nst ?_)
  refine z1b (z0L (z4y rfl Tryz.underlying249 rfl (by decide) rfl rfl (by exact vcs) (by first |(simp; done) |(simp; omega) | omega) (by first |(simp; done) |(simp; omega) |(simp at*; omega) | omega)) rfl) (by rw[hn]; rfl) ?_
  rw[hx]
  have m4:(((bs.take i).flatten.length:Nat):Int)+(b.length:Int)≤16777216:=by rw[eN]; exact m3
  repeat (refine nst ?_)
  rw[eN]
  repeat (refine nst ?_)
  refine z06 rfl (by simp) (fun h2=>?_) (fun h2=>?_)
  ·have:=of_decide_eq_true h2
   omega
  repeat (refine nst ?_)
  refine z08 ⟨i+1,by omega⟩ (by dsimp only; omega) (St.le_of ⟨⟨rfl,rfl,rfl,rfl,rfl,rfl⟩,rfl⟩)
 ·have hie:i=bs.length:=by simp at hc; omega
  subst hie
  rw[List.take_length] at*
  clear hc
  repeat (refine nst ?_)
  refine z0w [] hlb rfl rfl (by rw[hn]; rfl) rfl rfl (by trivial) ⟨rfl,trivial,trivial,rfl⟩ ?_
  repeat (refine nst ?_)
  refine z2I rfl rfl rfl rfl rfl rfl (by rw[hn]; rfl) (z0n Tryz.underlying28 rfl rfl) rfl rfl rfl rfl (by exact vcs) (by first | rfl |(simp; done) |(simp; omega)) ⟨by first |(simp; done) |(simp; omega) |(simp at*; omega),by decide⟩ ?_
  repeat (refine nst ?_)
  have eT:List.take T.length T=T:=List.take_length
  have eD:List.take D.length D=D:=List.take_length
  rw[eD]
  have eTD:(T++D++(bs.take 0).flatten)=T++D:=by simp
  rw[hlm]
  refine z09 (τ:=St.of [(6,.c (.own 81 1 0 (T++D++(bs.take 0).flatten).length)),(44,z2M bs),(45,lv (.int .i64 (bs.length:Int))),(46,lv (.int .i64 ((0:Nat):Int)))] [(81,.row (.ints .u8 (T++D++(bs.take 0).flatten)))]) ?_ ?_
  ·rw[eTD]
   exact St.le_of ⟨⟨rfl,rfl,rfl,rfl⟩,rfl⟩
  refine z0k (ι:= {i:Nat//i≤bs.length}) (fun i=>St.of [(6,.c (.own 81 1 0 (T++D++(bs.take i.1).flatten).length)),(44,z2M bs),(45,lv (.int .i64 (bs.length:Int))),(46,lv (.int .i64 (i.1:Int)))] [(81,.row (.ints .u8 (T++D++(bs.take i.1).flatten)))]) (fun i=>bs.length -i.1) (fun i=>?_) ⟨0,by omega⟩
  obtain⟨i,hi⟩:=i
  dsimp only
  repeat (refine nst ?_)
  refine z06 rfl (by simp) (fun hc=>?_) (fun hc=>?_)
  ·have hib:i<bs.length:=by simpa using hc
   obtain⟨m1,m2⟩:=hnext i hib
   have hx:=hidx i hib
   rw[m1] at m2
   have eN:T++D++(bs.take (i+1)).flatten=T++D++(bs.take i).flatten++bs[i]:=by rw[m1,List.append_assoc (T++D)]
   have m4:(T++D++(bs.take i).flatten).length+bs[i].length≤16000100:=by simp only[List.length_append] at m2 ⊢; omega
   generalize bs[i]=b at*
   generalize T++D++(bs.take i).flatten=X at*
   repeat (refine nst ?_)
   refine z1b (z0L (z4y rfl Tryz.underlying249 rfl (by decide) rfl rfl (by exact vcs) (by first |(simp; done) |(simp; omega) | omega) (by first |(simp; done) |(simp; omega) |(simp at*; omega) | omega)) rfl) (by rw[hn]; rfl) ?_
   rw[hx]
   repeat (refine nst ?_)
   refine z2I rfl rfl rfl rfl rfl rfl (by rw[hn]; rfl) (z0n Tryz.underlying28 rfl rfl) rfl rfl rfl rfl (by exact vcs) (by first | rfl |(simp; done) |(simp; omega)) ⟨by first |(simp; done) |(simp; omega) |(simp at*; omega),by decide⟩ ?_
   repeat (refine nst ?_)
   refine z08 ⟨i+1,by omega⟩ (by dsimp only; omega) (St.le_of ⟨⟨?_,rfl,rfl,rfl⟩,?_⟩)
   ·dsimp only
    rw[eN]
    rfl
   ·dsimp only
    rw[eN]
    rfl
  ·have hie:i=bs.length:=by simp at hc; omega
   subst hie
   rw[List.take_length,←hW] at*
   repeat (refine nst ?_)
   exact rt1 [81]
end Go.Proofs.YtaagjnlkinojcaaGreat

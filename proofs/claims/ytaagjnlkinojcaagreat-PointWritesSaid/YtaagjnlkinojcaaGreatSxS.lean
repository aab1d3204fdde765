/-
  The layer: one word for the steps of code. No condition.
-/
import Derived.Test.YtaagjnlkinojcaaGreatSxX
import Derived.Scope
namespace Go.Sx
open Go
set_option linter.unusedVariables false
theorem zkz {P:Program} {E:Env} {Q:Exit→Act→World→Prop} {σ:St} {c:Code} (h:W P E c (Exit.noGoto Q) σ):W P E (.scope c) Q σ:=fun a w hS=>wp_scope_straight (h a w hS)
theorem zkA {P:Program} {E:Env} {Q:Exit→Act→World→Prop} {σ:St} {l:Nat} (h:N E Q .normal σ):W P E (.label l) Q σ:=fun a w hS=>wp_label (h a w hS)
def Mt (A:Prop):Type→Type:=fun X=>X→PLift A
theorem stp {A B:Prop} [i:MonadReader (PLift B) (Mt A)] (h:B):A:=(i.read ⟨h⟩).down
section
variable {P:Program} {E:Env} {ops:Array Oper} {Q:Exit→Act→World→Prop} {rest:List Oper} {o:Oper} {σ:St}
instance {x y:Code}:MonadReader (PLift (W P E x (Exit.then (fun a w=>y.wp P Q a w) Q) σ)) (Mt (W P E (.seq x y) Q σ)):=⟨fun h=>⟨zrs h.down⟩⟩
instance {id:Nat} {l:List Oper}:MonadReader (PLift (WL P E l.toArray Q l σ)) (Mt (W P E (.region id l.toArray false) Q σ)):=⟨fun h=>⟨zim h.down⟩⟩
instance {id:Nat} {c:Code}:MonadReader (PLift (W P E c (Exit.inBlock id Q) σ)) (Mt (W P E (.block id c) Q σ)):=⟨fun h=>⟨zkv h.down⟩⟩
instance:MonadReader (PLift (N E Q .normal σ)) (Mt (W P E .skip Q σ)):=⟨fun h=>⟨zoV h.down⟩⟩
instance:MonadReader (PLift (N E Q .ret σ)) (Mt (W P E .ret Q σ)):=⟨fun h=>⟨zrt h.down⟩⟩
instance {id:Nat}:MonadReader (PLift (N E Q (.exit id) σ)) (Mt (W P E (.exit id) Q σ)):=⟨fun h=>⟨zoW h.down⟩⟩
instance {c:Code}:MonadReader (PLift (W P E c (Exit.noGoto Q) σ)) (Mt (W P E (.scope c) Q σ)):=⟨fun h=>⟨zkz h.down⟩⟩
instance {l:Nat}:MonadReader (PLift (N E Q .normal σ)) (Mt (W P E (.label l) Q σ)):=⟨fun h=>⟨zkA h.down⟩⟩
instance:MonadReader (PLift (N E Q .normal σ)) (Mt (WL P E ops Q [] σ)):=⟨fun h=>⟨zgh h.down⟩⟩
instance {y:Code} {Q':Exit→Act→World→Prop}:MonadReader (PLift (W P E y Q σ)) (Mt (N E (Exit.then (fun a w=>y.wp P Q a w) Q') .normal σ)):=⟨fun h=>⟨zoX h.down⟩⟩
instance {K:Act→World→Prop} {id:Nat}:MonadReader (PLift (N E Q (.exit id) σ)) (Mt (N E (Exit.then K Q) (.exit id) σ)):=⟨fun h=>⟨zdG h.down⟩⟩
instance {K:Act→World→Prop}:MonadReader (PLift (N E Q .ret σ)) (Mt (N E (Exit.then K Q) .ret σ)):=⟨fun h=>⟨zfb h.down⟩⟩
instance {id:Nat}:MonadReader (PLift (N E Q .normal σ)) (Mt (N E (Exit.inBlock id Q) .normal σ)):=⟨fun h=>⟨zkw h.down⟩⟩
instance {id:Nat}:MonadReader (PLift (N E Q .ret σ)) (Mt (N E (Exit.inBlock id Q) .ret σ)):=⟨fun h=>⟨zdH h.down⟩⟩
instance {id:Nat}:MonadReader (PLift (N E Q .normal σ)) (Mt (N E (Exit.inBlock id Q) (.exit id) σ)):=⟨fun h=>⟨zca h.down⟩⟩
instance:MonadReader (PLift (N E Q .normal σ)) (Mt (N E (Exit.noGoto Q) .normal σ)):=⟨fun h=>h⟩
instance:MonadReader (PLift (N E Q .ret σ)) (Mt (N E (Exit.noGoto Q) .ret σ)):=⟨fun h=>h⟩
instance {id:Nat}:MonadReader (PLift (N E Q (.exit id) σ)) (Mt (N E (Exit.noGoto Q) (.exit id) σ)):=⟨fun h=>h⟩
theorem sp1 {d:Option Nat} {ps:List Prop} {x:Av} (hk:WL P E ops Q rest (σ.put d x)) (hg:o.guard=none:=by exact rfl) (h:z4D o.dst (z1M true P σ o)=some (d,ps,x):=by exact rfl) (hd:z0e E.n d=true:=by rw[hn]; exact rfl)
 (hp:z03 ps:=by exact vcs):WL P E ops Q (o::rest) σ:=sp true hg h hd hp hk
theorem sg1 {i:Nat} {b G:Bool} {d:Option Nat} {ps:List Prop} {x:Av} (hk:WL P E ops Q rest (σ.put d (.cnd G x))) (hg:o.guard=some (i,b):=by exact rfl) (hG:z0V ops σ i b=some G:=by exact rfl) (h:z4D o.dst (z1M true P σ o)=some (d,ps,x):=by exact rfl) (hd:z0e E.n d=true:=by rw[hn]; exact rfl)
 (hp:G=true→z03 ps:=by intro hG; first | trivial |(simp; done) |(simp; omega) |(simp at*; done) |(simp at*; omega)):WL P E ops Q (o::rest) σ:=sg true hg hG h hd hp hk
theorem dp1 {l:List Oper} {K:St→Prop} {d d':Option Nat} {ps:List Prop} {x:Av} (hk:z2O P E ops l (σ.put d x) K) (hd:z0j o.dst some=some d:=by exact rfl) (hg:o.guard=none:=by exact rfl) (h:z4D o.dst (z1M true P σ o)=some (d',ps,x):=by exact rfl)
 (hp:z03 ps:=by exact vcs):z2O P E ops (o::l) σ K:=z2y hd (zcE true hg h hp) hk
theorem dg1 {l:List Oper} {K:St→Prop} {i:Nat} {b G:Bool} {d d':Option Nat} {ps:List Prop} {x:Av} (hk:z2O P E ops l (σ.put d (.cnd G x)) K) (hd:z0j o.dst some=some d:=by exact rfl) (hg:o.guard=some (i,b):=by exact rfl) (hG:z0V ops σ i b=some G:=by exact rfl)
 (h:z4D o.dst (z1M true P σ o)=some (d',ps,x):=by exact rfl)
 (hp:G=true→z03 ps:=by intro hG; first | trivial |(simp; done) |(simp; omega) |(simp at*; done) |(simp at*; omega)):z2O P E ops (o::l) σ K:=z2y hd (zb9 true hg hG h hp) hk
theorem rt1 {fn:Func} {ps:List Prop} {r res:Av} {bor' news:List Blk} {nb:Nat} (ks:List Nat) (hr:z5d (z4t P σ fn.results.toList)=some (ps,r):=by exact rfl) (hp:z03 ps:=by exact vcs)
  (hf:Fin σ r nb ks res bor' news:=by exact⟨rfl,by first | trivial | exact⟨rfl,rfl⟩ | exact⟨rfl,rfl,rfl⟩,by first | trivial | exact rfl | exact⟨rfl,rfl⟩,rfl⟩) (hnb:E.nb=nb:=by exact hb) (hlb:bor'.length=nb:=by exact rfl)
  (hlv:z03 ((z0b 0 bor').map fun p=>p.2≠ .gone):=by first | trivial |(simp; done) |(simp[z0b]; done)):
  N E (bodyPost P fn fun e w'=>∃ v β' F',e= .returned v∧AvR β' F' w' res v∧(∀ i b,bor'[i]? =some b→z0p β' F' w' i b)∧(∀ i b,news[i]? =some b→z0p β' F' w' (nb+i) b)∧Out E.w0 E.M E.F0 nb news.length E.β0 β' F' w') .ret σ:=
 z5o ks hr hp hf hnb hlb hlv
theorem rt2 {fn:Func} {ps:List Prop} {r res:Av} {bor' news:List Blk} {nb:Nat} (ks:List Nat) (f1:r=res.ren (rho nb ks)) (f3:z03 ((z0b nb news).map fun p=>σ.hp (rho nb ks p.1)=p.2.ren (rho nb ks))) (hr:z5d (z4t P σ fn.results.toList)=some (ps,r):=by exact rfl)
  (hp:z03 ps:=by exact vcs) (f2:z03 ((z0b 0 bor').map fun p=>σ.hp p.1=p.2.ren (rho nb ks)):=by first | trivial | exact⟨rfl,rfl⟩ | exact⟨rfl,rfl,rfl⟩)
  (f4:(res.ok (nb+news.length)&&bor'.all (Blk.ok (nb+news.length))&&news.all (Blk.ok (nb+news.length))&&news.all (fun b=>match b with | .gone=>false | _=>true)&&Nat.beq ks.length news.length&&ks.all (fun k=>Nat.ble 64 k)&&decide ks.Nodup)=true:=by exact rfl)
  (hnb:E.nb=nb:=by exact hb) (hlb:bor'.length=nb:=by exact rfl) (hlv:z03 ((z0b 0 bor').map fun p=>p.2≠ .gone):=by first | trivial |(simp; done) |(simp[z0b]; done)):
  N E (bodyPost P fn fun e w'=>∃ v β' F',e= .returned v∧AvR β' F' w' res v∧(∀ i b,bor'[i]? =some b→z0p β' F' w' i b)∧(∀ i b,news[i]? =some b→z0p β' F' w' (nb+i) b)∧Out E.w0 E.M E.F0 nb news.length E.β0 β' F' w') .ret σ:=
 z5o ks hr hp ⟨f1,f2,f3,f4⟩ hnb hlb hlv
end
theorem nst {A B:Prop} (h:B) (k:B→A:=by first | exact fun h=>stp h | exact fun h=>z5K rfl h | exact fun h=>sp1 h | exact fun h=>sg1 h | exact fun h=>zgh h):A:=k h
end Go.Sx

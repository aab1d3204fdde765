/-
  The layer's latter part: operations under a condition that holds. No condition.
-/
import Derived.Test.YtaagjnlkinojcaaGreatSxP
import Derived.Lib.AppendZerosOnto
namespace Go.Sx
open Go
set_option linter.unusedVariables false
set_option linter.unusedSimpArgs false
section
variable {P : Program} {E : Env} {ops : Array Oper} {Q : Exit → Act → World → Prop} {rest : List Oper} {o : Oper} {σ : St} {x : Av}
theorem znK {i : Nat} {b : Bool} (hg : o.guard = some (i, b)) (hG : z0X ops σ i b = some true) (hk : WL P E ops Q ({ o with guard := none } :: rest) σ) : WL P E ops Q (o :: rest) σ := by
 intro a w hS
 have h := hk a w hS
 obtain ⟨β, F, hS'⟩ := hS
 have hw : Region.wanted o (yielded ops a.tmps) = true := z3l (o := o) (z5h hG) hg hS'
 have hw' : Region.wanted { o with guard := none } (yielded ops a.tmps) = true := by simp [Region.wanted]
 unfold wpList at h ⊢
 rw [hw]
 rw [hw'] at h
 exact h
theorem z7O {τ : St} (h : τ.hp = σ.hp) : ∀ {ys xs : List Av}, z3m σ ys xs → z3m τ ys xs
 | [], [], _ => trivial
 | y :: ys, x :: xs, hl => by
   refine ⟨?_, z7O h hl.2⟩
   have := hl.1
   unfold z7C at this ⊢
   rw [h]
   exact this
 | [], _ :: _, hl => hl.elim
 | _ :: _, [], hl => hl.elim
theorem z6c {c : Call} {fo : Operand} {f : FuncId} {first cap : List Cell} {pf : List Prop} {xs : List Av} {res : Av} (hF : Ct P f xs [] res [] [])
   (hop : o.op = .call c) (hcv : c.callee = .value fo) (hfo : ox σ fo = (pf, .c (.fn (.func f) first cap)))
   (hp : z03 (pf ++ (oxs σ c.args.toList).1)) (hxs : z3m σ (first.map Av.c ++ (oxs σ c.args.toList).2 ++ cap.map Av.c) xs) (hok : (xs.all (Av.ok 0) && z3k res) = true) : z41 P E ops o σ res := by
 intro τ hl
 have hx := hl.ox
 have e1 : ox τ fo = ox σ fo := hx fo (by rw [hop]; simp [Op.operands, Call.operands, hcv])
 have e2 : oxs τ c.args.toList = oxs σ c.args.toList := z42 hx _ fun y hy => by
   rw [hop]; simp only [Op.operands, Call.operands]; simp at hy ⊢; first | exact .inr hy | exact .inl hy | simp [hy]
 exact z14 hF hop hcv (by rw [e1]; exact hfo) (by rw [e2]; exact hp) (by rw [e2]; exact z7O hl.hp hxs) hok
theorem z6d {t e : TypeId} {sz by_ n : Nat} {parts : Array (Nat × Operand)} {ps : List Prop} {out : List Cell} {d : Leaf} (hop : o.op = .buildSlice t n parts) (hE : Elt P t e sz by_) (hz : z01 P e)
   (hf : z18 (fun i => some (i * sz, sz)) (List.replicate (n * sz) .un) (parts.toList.map fun (i, x) => (i, ox σ x)) = some (ps, out)) (hp : z03 ps) (hdd : z24 P e sz n out = some d) (hn : n * sz ≤ 16777216 ∧ n ≤ 16777216 ∧ z0c d = n ∧ szD d = sz) :
   z41 P E ops o σ (.c (.lf d)) := by
 intro τ hl
 have e1 : (parts.toList.map fun (i, x) => (i, ox τ x)) = parts.toList.map fun (i, x) => (i, ox σ x) := List.map_congr_left fun p hp => by
   obtain ⟨i, x⟩ := p
   have : ox τ x = ox σ x := hl.ox x (by
     rw [hop]
     simp only [Op.operands]
     simp
     exact ⟨i, by simpa using hp⟩)
   simp only [this]
 exact z73 hop hE hz (by rw [e1]; exact hf) hp hdd hn
def stP (σ : St) (l : List Oper) (T : Nat → Av) (done : Nat → Bool) : St :=
 ⟨fun s => match fnd l s 0 with | some i => (match done i with | true => T i | false => σ.tm s) | none => σ.tm s, σ.hp⟩
def zb1 (ops : Array Oper) (l : List Oper) (i : Nat) (o : Oper) : Bool :=
 (o.op.operands.toList.all fun | .tmp t => (match fnd l t 0 with | some j => z07 j (z0u o) || (wts ops 4 j i && Nat.blt i j) | none => true) | _ => true) &&
 (match o.guard with
  | some (g, _) => (match (ops[g]?).bind (·.dst) with | some d => (match fnd l d 0 with | some j => z07 j (z0u o) | none => true) | none => true)
  | none => true)
def z4i (ops : Array Oper) (l : List Oper) : Bool :=
 z1J l &&
 (List.range ops.size).all fun i => match ops[i]? with
   | some o => o.after.toList.all (fun e => !Region.binds .any e || Nat.blt e.on i) && (match o.dst with | some d => (match fnd l d 0 with | some j => Nat.beq j i | none => false) | none => true) && zb1 ops l i o
   | none => false
theorem zet {l : List Oper} {T : Nat → Av} (hl : ∀ s i, fnd l s 0 = some i → i < ops.size ∧ (ops[i]?).bind (·.dst) = some s) (hB : z4i ops l = true)
   (hE : ∀ (d : Nat) (o : Oper) (i : Nat), ops[i]? = some o → o.dst = some d → d < E.n)
   (hq : ∀ (i : Nat) (o : Oper), ops[i]? = some o → ∀ done : Nat → Bool, (∀ j, z07 j (z0u o) = true → done j = true) → (∀ j, wts ops 4 j i = true → done j = false) → OpQ P E ops o (stP σ l T done) (T i))
   (hk : ∀ a w, SR E (stP σ l T (fun _ => true)) a w → Q .normal a w) :
   ∀ (m : Nat) (listed : Array Bool) (a : Act) (w : World), cnt (fun j => !listed.getD j true) ops.size = m → HeadInv .any ops ops.size listed →
     (∃ β F, SRb E β F (stP σ l T (fun j => listed.getD j false)) a w) → wpAny P .any ops Q m listed a w := by
 simp only [z4i, Bool.and_eq_true, List.all_eq_true, List.mem_range] at hB
 obtain ⟨hf, hB⟩ := hB
 intro m
 induction m with
 | zero =>
   intro listed a w hcn hI ⟨β, F, hS⟩
   have hall := z2V ops.size hcn
   refine ⟨?_, hk a w ⟨β, F, ?_⟩⟩
   · cases hr : Region.ready .any ops listed with
     | nil => rfl
     | cons i r =>
       have hi : i ∈ Region.ready .any ops listed := by rw [hr]; exact List.mem_cons_self ..
       obtain ⟨h1, o, ho, _⟩ := mem_ready.1 hi
       have hlt := (Array.getElem?_eq_some_iff.1 ho).1
       have := hall i hlt
       rw [h1] at this; cases this
   · refine hS.weaken (fun s => .inl ?_) rfl
     simp only [stP]
     split
     · rename_i i hi
       have hlt := (hl s i hi).1
       have h1 := hall i hlt
       have hs' : i < listed.size := by rw [hI.size]; omega
       simp [hs'] at h1
       simp [hs', h1]
     · rfl
 | succ m ih =>
   intro listed a w hcn hI ⟨β, F, hS⟩
   obtain ⟨i0, h1, h2, h3⟩ := z2W ops.size (by omega : cnt (fun j => !listed.getD j true) ops.size ≠ 0)
   have h2' : listed.getD i0 true = false := by simpa using h2
   have hr0 : i0 ∈ Region.ready .any ops listed := by
     refine mem_ready.2 ⟨h2', ?_⟩
     have := hB i0 h1
     split at this
     · rename_i o ho
       simp only [Bool.and_eq_true, List.all_eq_true] at this
       refine ⟨o, ho, fun e he hbn => ?_⟩
       have h4 : e.on < i0 := z0L (by simpa [hbn] using this.1.1 e (by simpa using he))
       have h5 := h3 e.on h4
       have hs' : e.on < listed.size := by rw [hI.size]; omega
       simp [hs'] at h5
       simp [hs', h5]
     · cases this
   refine ⟨fun h => (by rw [h] at hr0; cases hr0), fun i hi => ?_⟩
   obtain ⟨hun, o, ho, hdeps⟩ := mem_ready.1 hi
   have hin : i < ops.size := (Array.getElem?_eq_some_iff.1 ho).1
   have hs' : i < listed.size := by rw [hI.size]; omega
   have hunf : listed.getD i false = false := by simp [hs'] at hun ⊢; exact hun
   have hBi := hB i hin
   rw [ho] at hBi
   simp only [Bool.and_eq_true] at hBi
   obtain ⟨⟨_, hBd⟩, _⟩ := hBi
   have hcnt : cnt (fun j => !(listed.setIfInBounds i true).getD j true) ops.size = m := by
     have := z40 (f := fun j => !listed.getD j true) (f' := fun j => !(listed.setIfInBounds i true).getD j true) (i := i) (by simp [hun]) (by simp [hs']) (fun j hj => by simp only [getD_set_ne true (Ne.symm hj)]) ops.size
     rw [if_pos hin] at this
     omega
   have hdep : ∀ j, z07 j (z0u o) = true → listed.getD j false = true := by
     intro j hj
     have := z2Y _ _ hj
     simp only [z0u, List.mem_map, List.mem_filter] at this
     obtain ⟨e, ⟨he1, he2⟩, rfl⟩ := this
     exact hdeps e (by simpa using he1) he2
   have hlate : ∀ j, wts ops 4 j i = true → listed.getD j false = false := by
     intro j hj
     cases h : listed.getD j false with
     | false => rfl
     | true => have := z2E hI 4 j i hj h; rw [hunf] at this; cases this
   have hqq := hq i o ho _ hdep hlate β F a w hS (fun a' w' => wpAny P .any ops Q m (listed.setIfInBounds i true) a' w') Q fun v w' F' g1 g2 g3 g4 => by
     refine ih _ _ _ hcnt (hI.set hi hin) ⟨β, F', ?_⟩
     have hb := hS.grown g1 g2 g3
     cases hd : o.dst with
     | none =>
       have e : (stP σ l T (fun j => (listed.setIfInBounds i true).getD j false)).tm = (stP σ l T (fun j => listed.getD j false)).tm := by
         funext s
         simp only [stP]
         split
         · rename_i j hj
           have hjs := (hl s j hj).2
           have hji : j ≠ i := by rintro rfl; rw [ho] at hjs; simp [hd] at hjs
           rw [getD_set_ne false (Ne.symm hji)]
         · rfl
       refine hb.weaken (fun s => .inl (congrFun e s)) rfl
     | some d =>
       rw [hd] at hBd
       have hfd : fnd l d 0 = some i := by
         dsimp only at hBd
         split at hBd
         · rename_i j hj; rw [hj, Nat.eq_of_beq_eq_true hBd]
         · cases hBd
       have hp' := hb.put (d := some d) g4 (fun k hk => by cases hk; exact hE d o i ho hd)
       refine hp'.weaken (fun s => .inl ?_) rfl
       simp only [stP, St.put, St.set]
       by_cases hsd : s = d
       · subst hsd
         simp [hfd, hs']
       · rw [if_neg hsd]
         split
         · rename_i j hj
           have hji : j ≠ i := by
             rintro rfl
             have h5 := (hl s j hj).2
             rw [ho] at h5
             simp [hd] at h5
             exact hsd h5.symm
           rw [getD_set_ne false (Ne.symm hji)]
         · rfl
   unfold wpOp
   rw [ho]
   dsimp only
   split
   · rename_i hw; rw [if_pos hw] at hqq; exact .inl hqq
   · rename_i hw; rw [if_neg hw] at hqq; exact hqq
theorem z8V {id : Nat} {l : List Oper} (hm : P.follows .mixedOrders = true) (hB : z4i l.toArray l = true) (hE : l.all (fun o => z08 E.n o.dst) = true)
   (h : z1V P E l.toArray l σ (fun τ => WL P E l.toArray Q [] τ)) : W P E (.region id l.toArray true) Q σ := by
 intro a w hS
 obtain ⟨xs, k1, k2, k3⟩ := z6H _ _ _ h
 have hB0 := hB
 simp only [z4i, Bool.and_eq_true, List.all_eq_true, List.mem_range] at hB
 obtain ⟨hf, hB⟩ := hB
 have hdep : ∀ (i : Nat) (o : Oper), l[i]? = some o → ∀ j, z07 j (z0u o) = true → j < i := by
   intro i o ho j hj
   have hin : i < l.toArray.size := by simpa using (List.getElem?_eq_some_iff.1 ho).1
   have := hB i hin
   rw [show l.toArray[i]? = some o by simpa using ho] at this
   simp only [Bool.and_eq_true, List.all_eq_true] at this
   have hm := z2Y _ _ hj
   simp only [z0u, List.mem_map, List.mem_filter] at hm
   obtain ⟨e, ⟨he1, he2⟩, rfl⟩ := hm
   exact z0L (by simpa [he2] using this.1.1 e (by simpa using he1))
 have hsee : ∀ (i t : Nat) (done : Nat → Bool), i ≤ l.length → (match fnd l t 0 with | some j => ((j < i ∧ done j = true) ∨ (done j = false ∧ i < j)) | none => True) → (stP σ l (fun j => xs.getD j (.c .un)) done).tm t = (pre σ (l.take i) (xs.take i)).tm t := by
   intro i t done hil ht
   rw [z2X _ _ _ _ (z4D l i hf) (by simp; omega)]
   simp only [stP]
   cases hfd : fnd l t 0 with
   | none =>
     rw [z2L l i t 0 hfd]
   | some j =>
     rw [hfd] at ht
     dsimp only at ht ⊢
     rcases ht with ⟨h1, h2⟩ | ⟨h1, h2⟩
     · rw [h2, z3n l i t j hfd h1]
       dsimp only
       rw [List.getD_eq_getElem?_getD, List.getD_eq_getElem?_getD, List.getElem?_take, if_pos h1]
     · rw [h1]
       have hnone : fnd (l.take i) t 0 = none := by
         cases hx : fnd (l.take i) t 0 with
         | none => rfl
         | some k =>
           obtain ⟨_, h5⟩ := z25 _ _ _ _ hx
           rw [Nat.sub_zero] at h5
           obtain ⟨o, ho, hod⟩ := Option.bind_eq_some_iff.1 h5
           have hki : k < i := by
             have := (List.getElem?_eq_some_iff.1 ho).1
             simp at this
             omega
           rw [List.getElem?_take, if_pos hki] at ho
           have hkl := (List.getElem?_eq_some_iff.1 ho).1
           have := hB k (by simpa using hkl)
           rw [show l.toArray[k]? = some o by simpa using ho] at this
           simp only [Bool.and_eq_true] at this
           have h6 := this.1.2
           rw [hod] at h6
           dsimp only at h6
           rw [hfd] at h6
           have : j = k := Nat.eq_of_beq_eq_true h6
           omega
       rw [hnone]
 have hlook : ∀ (i : Nat) (o : Oper), l[i]? = some o → ∀ done : Nat → Bool, (∀ j, z07 j (z0u o) = true → done j = true) → (∀ j, wts l.toArray 4 j i = true → done j = false) → Like l.toArray o (stP σ l (fun j => xs.getD j (.c .un)) done) (pre σ (l.take i) (xs.take i)) := by
   intro i o ho done hd1 hd2
   have hlt : i < l.length := (List.getElem?_eq_some_iff.1 ho).1
   have := hB i (by simpa using hlt)
   rw [show l.toArray[i]? = some o by simpa using ho] at this
   simp only [Bool.and_eq_true] at this
   have hlk := this.2
   simp only [zb1, Bool.and_eq_true, List.all_eq_true] at hlk
   refine ⟨by rw [z4p]; rfl, fun x hx => ?_, fun i' b hg d hd => ?_⟩
   · cases x with
     | tmp t =>
       have := hlk.1 (.tmp t) hx
       show str _ = str _
       simp only [ev]
       rw [hsee i t done (by omega) ?_]
       dsimp only at this
       cases hfd : fnd l t 0 with
       | none => trivial
       | some j =>
         rw [hfd] at this
         dsimp only at this ⊢
         simp only [Bool.or_eq_true, Bool.and_eq_true] at this
         rcases this with h | ⟨h1, h2⟩
         · exact .inl ⟨hdep i o ho j h, hd1 j h⟩
         · exact .inr ⟨hd2 j h1, z0L h2⟩
     | const v => rfl
     | global g => rfl
     | func f => rfl
   · have := hlk.2
     rw [hg] at this
     dsimp only at this
     rw [hd] at this
     dsimp only at this
     refine hsee i d done (by omega) ?_
     cases hfd : fnd l d 0 with
     | none => trivial
     | some j =>
       rw [hfd] at this
       exact .inl ⟨hdep i o ho j this, hd1 j this⟩
 refine wp_region_any hm ?_
 have hcnt : cnt (fun j => !(Array.replicate l.toArray.size false).getD j true) l.toArray.size = l.toArray.size := by
   have : ∀ m, m ≤ l.length → cnt (fun j => !(Array.replicate l.toArray.size false).getD j true) m = m := by
     intro m
     induction m with
     | zero => intro _; rfl
     | succ m ih =>
       intro hm
       simp only [cnt, ih (by omega)]
       simp [show m < l.length by omega]
   exact this l.toArray.size (by simp)
 have hget : ∀ (i : Nat) (o : Oper), l.toArray[i]? = some o → l[i]? = some o := fun i o h => by simpa using h
 have hxs : ∀ (i : Nat) (o : Oper), l[i]? = some o → xs[i]? = some (xs.getD i (.c .un)) := by
   intro i o ho
   have hlt : i < l.length := (List.getElem?_eq_some_iff.1 ho).1
   have : i < xs.length := by omega
   simp [List.getD_eq_getElem?_getD, List.getElem?_eq_getElem this]
 exact zet (P := P) (E := E) (ops := l.toArray) (Q := Q) (σ := σ) (l := l) (T := fun j => xs.getD j (.c .un))
   (fun s i hi => by
     obtain ⟨_, h5⟩ := z25 _ _ _ _ hi
     rw [Nat.sub_zero] at h5
     obtain ⟨o, ho, hod⟩ := Option.bind_eq_some_iff.1 h5
     exact ⟨by simpa using (List.getElem?_eq_some_iff.1 ho).1, by simp [ho, hod]⟩)
   hB0 (fun d o i ho hd => z0o (List.all_eq_true.1 hE o (List.mem_of_getElem? (hget i o ho))) d hd)
   (fun i o ho done h1 h2 => by
     have ho := hget i o ho
     exact k2 i o _ ho (hxs i o ho) _ (hlook i o ho done h1 h2))
   (fun a w hS => k3 a w (by
     obtain ⟨β, F, hS⟩ := hS
     refine ⟨β, F, hS.weaken (fun s => .inl ?_) (by rw [z4p]; rfl)⟩
     rw [z2X _ _ _ _ hf k1]
     simp only [stP]
     all_goals (cases fnd l s 0 <;> rfl)))
   l.toArray.size (Array.replicate l.toArray.size false) a { w with drawn := w.drawn + 1 } hcnt
   ⟨by simp, fun j oj _ hl => (by rw [getD_replicate_false] at hl; cases hl), fun t _ ht => getD_in (by simpa using ht) (getD_replicate_false _ _)⟩
   (by
     obtain ⟨β, F, hS⟩ := hS
     refine ⟨β, F, (hS.drawn _).weaken (fun s => ?_) rfl⟩
     simp only [stP]
     split
     · rename_i i hi
       rw [getD_replicate_false]
       exact .inl rfl
     · exact .inl rfl)
def zgx (σ : St) : List Cell → List Leaf → Prop
 | [], [] => True
 | c :: cs, x :: xs => (c = .lf x ∨ ∃ j off len k L, c = .own j 1 off len ∧ σ.hp j = .row (.ints k L) ∧ off + len ≤ L.length ∧ x = .ints k ((L.drop off).take len)) ∧ zgx σ cs xs
 | _, _ => False
def zgy (σ : St) (y x : Av) : Prop := z7C σ y x ∨ ∃ j cs L, y = .c (.ptr j 0) ∧ σ.hp j = .cells cs ∧ zgx σ cs L ∧ x = .c (.lf (.obj L))
def z8w (σ : St) : List Av → List Av → Prop
 | [], [] => True
 | y :: ys, x :: xs => zgy σ y x ∧ z8w σ ys xs
 | _, _ => False
theorem z8w.get {σ : St} : ∀ {ys xs : List Av}, z8w σ ys xs → ys.length = xs.length ∧ ∀ (i : Nat) (x : Av), xs[i]? = some x → ∃ y, ys[i]? = some y ∧ zgy σ y x
 | [], [], _ => ⟨rfl, fun i x h => by simp at h⟩
 | y :: ys, x :: xs, h => by
   obtain ⟨h1, h2⟩ := h
   obtain ⟨h3, h4⟩ := z8w.get h2
   refine ⟨by simp [h3], fun i z hz => ?_⟩
   cases i with
   | zero => simp at hz; subst hz; exact ⟨y, rfl, h1⟩
   | succ i => simpa using h4 i z (by simpa using hz)
 | [], _ :: _, h => h.elim
 | _ :: _, [], h => h.elim
end
end Go.Sx

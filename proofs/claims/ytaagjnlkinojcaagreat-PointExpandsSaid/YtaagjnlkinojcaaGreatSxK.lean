/-
  The layer's latter part: drawn regions that hold one row of their own: a call makes it, an append takes it over. No condition.
-/
import Derived.Test.YtaagjnlkinojcaaGreatSxR
namespace Go.Sx
open Go
set_option linter.unusedVariables false
set_option linter.unusedSimpArgs false
section
variable {P : Program} {E : Env} {ops : Array Oper} {Q : Exit → Act → World → Prop} {rest : List Oper} {o : Oper} {σ : St} {x : Av}
def OpT (P : Program) (E : Env) (ops : Array Oper) (o : Oper) (σ σ' : St) : Prop := ∀ a w, SR E σ a w → ∀ (K : Act → World → Prop) (Q : Exit → Act → World → Prop), (∀ a' w', SR E σ' a' w' → K a' w') →
 if Region.wanted o (yielded ops a.tmps) then o.wp P a w K Q ∨ (o.asks P a w ∧ LetsOut Q) else K (a.put o.dst undef) w
theorem ztF {a : Act} {w : World} {K : Act → World → Prop} {Q Q2 : Exit → Act → World → Prop} (hQ : ∀ e a w, e ≠ .normal → Q2 e a w → Q e a w) (h : o.wp P a w K Q2) : o.wp P a w K Q := by
 have hL : LetsOut Q2 → LetsOut Q := fun ⟨a, w, h⟩ => ⟨a, w, hQ _ _ _ (fun h => by cases h) h⟩
 unfold Oper.wp at h ⊢
 revert h
 generalize (execOp a.eval o).run P w = r
 intro h
 unfold Oper.upon at h ⊢
 split at h <;> first
   | exact h
   | exact h.mono fun e w' hq => by
       cases e with
       | returned v => exact hq
       | panicked c => exact hQ _ _ _ (fun h => by cases h) hq
       | outgrown => exact hL hq
   | exact hQ _ _ _ (fun h => by cases h) h
   | exact h.elim
theorem zen {σ' : St} (h : ∀ Q', (∀ a w, SR E σ' a w → Q' .normal a w) → WL P E ops Q' [o] σ) : OpT P E ops o σ σ' := by
 intro a w hS K Q hK
 have := h (fun e a w => match e with | .normal => K a w | e => Q e a w) (fun a w h => hK a w h) a w hS
 have hQ : ∀ e a w, e ≠ .normal → (match e with | .normal => K a w | e => Q e a w) → Q e a w := fun e a w hn h => by
   cases e with
   | normal => exact absurd rfl hn
   | _ => exact h
 unfold wpList at this
 split
 · rename_i hw
   rw [if_pos hw] at this
   rcases this with h | ⟨h, a', w', hl⟩
   · exact .inl (ztF hQ h)
   · exact .inr ⟨h, a', w', hl⟩
 · rename_i hw
   rw [if_neg hw] at this
   exact this
theorem OpT.weaken {σ' τ : St} (h : OpT P E ops o σ σ') (hw : ∀ a w, SR E σ' a w → SR E τ a w) : OpT P E ops o σ τ := fun a w hS K Q hK => h a w hS K Q fun a' w' h => hK a' w' (hw a' w' h)
theorem zeo {l : List Oper} {S : (Nat → Bool) → St} (hB : z4i ops l = true) (hext : ∀ d d' : Nat → Bool, (∀ i, i < ops.size → d i = d' i) → S d = S d')
   (hq : ∀ (i : Nat) (o : Oper), ops[i]? = some o → ∀ done : Nat → Bool, (∀ j, z07 j (z0u o) = true → done j = true) → (∀ j, wts ops 4 j i = true → done j = false) → done i = false → OpT P E ops o (S done) (S (fun j => match Nat.beq j i with | true => true | false => done j)))
   (hk : ∀ a w, SR E (S (fun _ => true)) a w → Q .normal a w) :
   ∀ (m : Nat) (listed : Array Bool) (a : Act) (w : World), cnt (fun j => !listed.getD j true) ops.size = m → HeadInv .any ops ops.size listed →
     SR E (S (fun j => listed.getD j false)) a w → wpAny P .any ops Q m listed a w := by
 simp only [z4i, Bool.and_eq_true, List.all_eq_true, List.mem_range] at hB
 obtain ⟨hf, hB⟩ := hB
 intro m
 induction m with
 | zero =>
   intro listed a w hcn hI hS
   have hall := z2V ops.size hcn
   refine ⟨?_, hk a w ?_⟩
   · cases hr : Region.ready .any ops listed with
     | nil => rfl
     | cons i r =>
       have hi : i ∈ Region.ready .any ops listed := by rw [hr]; exact List.mem_cons_self ..
       obtain ⟨h1, o, ho, _⟩ := mem_ready.1 hi
       have hlt := (Array.getElem?_eq_some_iff.1 ho).1
       have := hall i hlt
       rw [h1] at this; cases this
   · rw [← hext (fun j => listed.getD j false) (fun _ => true) (fun i hi => by
       have h1 := hall i hi
       have hs' : i < listed.size := by rw [hI.size]; omega
       simp [hs'] at h1
       simp [hs', h1])]
     exact hS
 | succ m ih =>
   intro listed a w hcn hI hS
   obtain ⟨i0, h1, h2, h3⟩ := z2W ops.size (by omega : cnt (fun j => !listed.getD j true) ops.size ≠ 0)
   have h2' : listed.getD i0 true = false := by simpa using h2
   have hr0 : i0 ∈ Region.ready .any ops listed := by
     refine mem_ready.2 ⟨h2', ?_⟩
     have := hB i0 h1
     split at this
     · rename_i o ho
       simp only [Bool.and_eq_true, List.all_eq_true] at this
       refine ⟨o, ho, fun e he hbn => ?_⟩
       have h4 : e.on < i0 := z0L (by simpa [hbn] using this.1.1 e (by simpa using he))
       have h5 := h3 e.on h4
       have hs' : e.on < listed.size := by rw [hI.size]; omega
       simp [hs'] at h5
       simp [hs', h5]
     · cases this
   refine ⟨fun h => (by rw [h] at hr0; cases hr0), fun i hi => ?_⟩
   obtain ⟨hun, o, ho, hdeps⟩ := mem_ready.1 hi
   have hin : i < ops.size := (Array.getElem?_eq_some_iff.1 ho).1
   have hs' : i < listed.size := by rw [hI.size]; omega
   have hunf : listed.getD i false = false := by simp [hs'] at hun ⊢; exact hun
   have hBi := hB i hin
   rw [ho] at hBi
   simp only [Bool.and_eq_true] at hBi
   obtain ⟨⟨_, hBd⟩, _⟩ := hBi
   have hcnt : cnt (fun j => !(listed.setIfInBounds i true).getD j true) ops.size = m := by
     have := z40 (f := fun j => !listed.getD j true) (f' := fun j => !(listed.setIfInBounds i true).getD j true) (i := i) (by simp [hun]) (by simp [hs']) (fun j hj => by simp only [getD_set_ne true (Ne.symm hj)]) ops.size
     rw [if_pos hin] at this
     omega
   have hdep : ∀ j, z07 j (z0u o) = true → listed.getD j false = true := by
     intro j hj
     have := z2Y _ _ hj
     simp only [z0u, List.mem_map, List.mem_filter] at this
     obtain ⟨e, ⟨he1, he2⟩, rfl⟩ := this
     exact hdeps e (by simpa using he1) he2
   have hlate : ∀ j, wts ops 4 j i = true → listed.getD j false = false := by
     intro j hj
     cases h : listed.getD j false with
     | false => rfl
     | true => have := z2E hI 4 j i hj h; rw [hunf] at this; cases this
   have hqq := hq i o ho _ hdep hlate hunf a w hS (fun a' w' => wpAny P .any ops Q m (listed.setIfInBounds i true) a' w') Q fun a' w' h => by
     refine ih _ _ _ hcnt (hI.set hi hin) ?_
     rw [hext (fun j => (listed.setIfInBounds i true).getD j false) (fun j => match Nat.beq j i with | true => true | false => listed.getD j false) (fun j hj => by
       by_cases hji : j = i
       · subst hji
         simp [hs']
       · rw [getD_set_ne false (Ne.symm hji), z0D hji])]
     exact h
   unfold wpOp
   rw [ho]
   exact hqq
theorem znI {l : List Oper} {xs : List Av} (hB : z4i l.toArray l = true) (k1 : xs.length = l.length) : ∀ (i : Nat) (o : Oper), l[i]? = some o → ∀ done : Nat → Bool, (∀ j, z07 j (z0u o) = true → done j = true) → (∀ j, wts l.toArray 4 j i = true → done j = false) → Like l.toArray o (stP σ l (fun j => xs.getD j (.c .un)) done) (pre σ (l.take i) (xs.take i)) := by
 have hB0 := hB
 simp only [z4i, Bool.and_eq_true, List.all_eq_true, List.mem_range] at hB
 obtain ⟨hf, hB⟩ := hB
 have hdep : ∀ (i : Nat) (o : Oper), l[i]? = some o → ∀ j, z07 j (z0u o) = true → j < i := by
   intro i o ho j hj
   have hin : i < l.toArray.size := by simpa using (List.getElem?_eq_some_iff.1 ho).1
   have := hB i hin
   rw [show l.toArray[i]? = some o by simpa using ho] at this
   simp only [Bool.and_eq_true, List.all_eq_true] at this
   have hm := z2Y _ _ hj
   simp only [z0u, List.mem_map, List.mem_filter] at hm
   obtain ⟨e, ⟨he1, he2⟩, rfl⟩ := hm
   exact z0L (by simpa [he2] using this.1.1 e (by simpa using he1))
 have hsee : ∀ (i t : Nat) (done : Nat → Bool), i ≤ l.length → (match fnd l t 0 with | some j => ((j < i ∧ done j = true) ∨ (done j = false ∧ i < j)) | none => True) → (stP σ l (fun j => xs.getD j (.c .un)) done).tm t = (pre σ (l.take i) (xs.take i)).tm t := by
   intro i t done hil ht
   rw [z2X _ _ _ _ (z4D l i hf) (by simp; omega)]
   simp only [stP]
   cases hfd : fnd l t 0 with
   | none =>
     rw [z2L l i t 0 hfd]
   | some j =>
     rw [hfd] at ht
     dsimp only at ht ⊢
     rcases ht with ⟨h1, h2⟩ | ⟨h1, h2⟩
     · rw [h2, z3n l i t j hfd h1]
       dsimp only
       rw [List.getD_eq_getElem?_getD, List.getD_eq_getElem?_getD, List.getElem?_take, if_pos h1]
     · rw [h1]
       have hnone : fnd (l.take i) t 0 = none := by
         cases hx : fnd (l.take i) t 0 with
         | none => rfl
         | some k =>
           obtain ⟨_, h5⟩ := z25 _ _ _ _ hx
           rw [Nat.sub_zero] at h5
           obtain ⟨o, ho, hod⟩ := Option.bind_eq_some_iff.1 h5
           have hki : k < i := by
             have := (List.getElem?_eq_some_iff.1 ho).1
             simp at this
             omega
           rw [List.getElem?_take, if_pos hki] at ho
           have hkl := (List.getElem?_eq_some_iff.1 ho).1
           have := hB k (by simpa using hkl)
           rw [show l.toArray[k]? = some o by simpa using ho] at this
           simp only [Bool.and_eq_true] at this
           have h6 := this.1.2
           rw [hod] at h6
           dsimp only at h6
           rw [hfd] at h6
           have : j = k := Nat.eq_of_beq_eq_true h6
           omega
       rw [hnone]
 intro i o ho done hd1 hd2
 have hlt : i < l.length := (List.getElem?_eq_some_iff.1 ho).1
 have := hB i (by simpa using hlt)
 rw [show l.toArray[i]? = some o by simpa using ho] at this
 simp only [Bool.and_eq_true] at this
 have hlk := this.2
 simp only [zb1, Bool.and_eq_true, List.all_eq_true] at hlk
 refine ⟨by rw [z4p]; rfl, fun x hx => ?_, fun i' b hg d hd => ?_⟩
 · cases x with
   | tmp t =>
     have := hlk.1 (.tmp t) hx
     show str _ = str _
     simp only [ev]
     rw [hsee i t done (by omega) ?_]
     dsimp only at this
     cases hfd : fnd l t 0 with
     | none => trivial
     | some j =>
       rw [hfd] at this
       dsimp only at this ⊢
       simp only [Bool.or_eq_true, Bool.and_eq_true] at this
       rcases this with h | ⟨h1, h2⟩
       · exact .inl ⟨hdep i o ho j h, hd1 j h⟩
       · exact .inr ⟨hd2 j h1, z0L h2⟩
   | const v => rfl
   | global g => rfl
   | func f => rfl
 · have := hlk.2
   rw [hg] at this
   dsimp only at this
   rw [hd] at this
   dsimp only at this
   refine hsee i d done (by omega) ?_
   cases hfd : fnd l d 0 with
   | none => trivial
   | some j =>
     rw [hfd] at this
     exact .inl ⟨hdep i o ho j this, hd1 j this⟩
def kfr (K sc : Nat) (τ : St) : Prop := (∀ s, s ≠ sc → (τ.tm s).kill K = τ.tm s) ∧ ∀ j, j ≠ K → (τ.hp j).kill K = τ.hp j
def stK (σ : St) (l : List Oper) (T : Nat → Av) (K sc ci ui : Nat) (BC : Blk) (oc : Cell) (done : Nat → Bool) : St :=
 ⟨fun s => match Nat.beq s sc with | true => (match done ci with | true => (match done ui with | true => .c .un | false => .c oc) | false => σ.tm s) | false => (stP σ l T done).tm s,
  fun j => match Nat.beq j K with | true => (match done ci with | true => (match done ui with | true => .gone | false => BC) | false => .gone) | false => σ.hp j⟩
def z4h (P : Program) (E : Env) (ops : Array Oper) (K sc ci ui : Nat) (BC : Blk) (oc : Cell) : Nat → List Oper → St → (St → Prop) → Prop
 | _, [], σ, C => C σ
 | i, o :: l, σ, C => ∃ d x, d = o.dst ∧ x.kill K = x ∧
   (match Nat.beq i ci with
    | true => x = .c .un ∧ ∀ τ, Like ops o τ σ → kfr K sc τ → (τ.tm sc).kill K = τ.tm sc → τ.hp K = .gone → OpT P E ops o τ ((τ.seth K BC).put d (.c oc))
    | false => match Nat.beq i ui with
      | true => ∀ τ, Like ops o τ ((σ.seth K BC).set sc (.c oc)) → kfr K sc τ → OpT P E ops o τ (((τ.set sc (.c .un)).seth K .gone).put d x)
      | false => OpS P E ops o σ x) ∧ z4h P E ops K sc ci ui BC oc (i + 1) l (σ.put d x) C
theorem z9A {K sc ci ui : Nat} {BC : Blk} {oc : Cell} : ∀ (n : Nat) (l : List Oper) (σ : St) (C : St → Prop), z4h P E ops K sc ci ui BC oc n l σ C → ∃ xs : List Av, xs.length = l.length ∧ (∀ x ∈ xs, x.kill K = x) ∧
   (∀ i o x, l[i]? = some o → xs[i]? = some x → (match Nat.beq (n + i) ci with
    | true => x = .c .un ∧ ∀ τ, Like ops o τ (pre σ (l.take i) (xs.take i)) → kfr K sc τ → (τ.tm sc).kill K = τ.tm sc → τ.hp K = .gone → OpT P E ops o τ ((τ.seth K BC).put o.dst (.c oc))
    | false => match Nat.beq (n + i) ui with
      | true => ∀ τ, Like ops o τ (((pre σ (l.take i) (xs.take i)).seth K BC).set sc (.c oc)) → kfr K sc τ → OpT P E ops o τ (((τ.set sc (.c .un)).seth K .gone).put o.dst x)
      | false => OpS P E ops o (pre σ (l.take i) (xs.take i)) x)) ∧ C (pre σ l xs)
 | n, [], σ, C, h => ⟨[], rfl, (fun x h => nomatch h), (fun i o x h => by simp at h), h⟩
 | n, o :: l, σ, C, ⟨d, x, hd, hx, h1, h2⟩ => by
   subst hd
   obtain ⟨xs, k1, k0, k2, k3⟩ := z9A (n + 1) l _ C h2
   refine ⟨x :: xs, by simp [k1], fun y hy => ?_, fun i o' x' ho hx' => ?_, k3⟩
   · rcases List.mem_cons.1 hy with rfl | hy
     · exact hx
     · exact k0 y hy
   · match i, ho, hx' with
     | 0, ho, hx' => simp at ho hx'; subst ho; subst hx'; exact h1
     | i + 1, ho, hx' =>
       have := k2 i o' x' (by simpa using ho) (by simpa using hx')
       rw [show n + 1 + i = n + (i + 1) by omega] at this
       simpa [pre] using this
theorem z1M (a : Nat) : Nat.beq a a = true := by simp
set_option maxHeartbeats 1000000 in
theorem zhr {id : Nat} {l : List Oper} {BC : Blk} {oc : Cell} {oC oU : Oper} (K sc su ci ui : Nat) (hm : P.follows .mixedOrders = true) (hB : z4i l.toArray l = true) (hE : l.all (fun o => z08 E.n o.dst) = true)
   (hci : l[ci]? = some oC) (hui : l[ui]? = some oU) (hsc : oC.dst = some sc) (hsu : oU.dst = some su) (hw : wts l.toArray 4 ui ci = true) (hdu : z07 ci (z0u oU) = true) (hne : Nat.beq ci ui = false) (hss : Nat.beq sc su = false)
   (hnK : E.nb ≤ K) (hσK : σ.hp K = .gone) (hσ : ∀ s, (σ.tm s).kill K = σ.tm s) (hσh : ∀ j, (σ.hp j).kill K = σ.hp j)
   (h : z4h P E l.toArray K sc ci ui BC oc 0 l σ (fun τ => WL P E l.toArray Q [] τ)) : W P E (.region id l.toArray true) Q σ := by
 intro a w hS
 have hcu : ci ≠ ui := fun e => by rw [e] at hne; simp at hne
 have hssn : sc ≠ su := fun e => by rw [e] at hss; simp at hss
 obtain ⟨xs, k1, k0, k2, k3⟩ := z9A _ _ _ _ h
 have hlike := znI (σ := σ) hB k1
 have hB0 := hB
 simp only [z4i, Bool.and_eq_true, List.all_eq_true, List.mem_range] at hB
 obtain ⟨hf, hB⟩ := hB
 let T : Nat → Av := fun j => xs.getD j (.c .un)
 have hT : ∀ j, (T j).kill K = T j := by
   intro j
   show (xs.getD j (.c .un)).kill K = xs.getD j (.c .un)
   rw [List.getD_eq_getElem?_getD]
   cases hx : xs[j]? with
   | none => rfl
   | some y => exact k0 y (List.mem_of_getElem? hx)
 have hfd : ∀ (i : Nat) (o : Oper) (d : Nat), l[i]? = some o → o.dst = some d → fnd l d 0 = some i := by
   intro i o d ho hd
   have hlt := (List.getElem?_eq_some_iff.1 ho).1
   have := hB i (by simpa using hlt)
   rw [show l.toArray[i]? = some o by simpa using ho] at this
   simp only [Bool.and_eq_true] at this
   have h6 := this.1.2
   rw [hd] at h6
   dsimp only at h6
   split at h6
   · rename_i j hj
     rw [hj, Nat.eq_of_beq_eq_true h6]
   · cases h6
 have hfsc := hfd ci oC sc hci hsc
 have hfsu := hfd ui oU su hui hsu
 have hfo : ∀ s i, fnd l s 0 = some i → ∃ o, l[i]? = some o ∧ o.dst = some s := by
   intro s i hi
   obtain ⟨_, h5⟩ := z25 _ _ _ _ hi
   rw [Nat.sub_zero] at h5
   obtain ⟨o, ho, hod⟩ := Option.bind_eq_some_iff.1 h5
   exact ⟨o, ho, hod⟩
 have hnf : ∀ (i : Nat) (o : Oper) (s : Nat), l[i]? = some o → o.dst ≠ some s → fnd l s 0 ≠ some i := by
   intro i o s ho hd hi
   obtain ⟨o', ho', hd'⟩ := hfo s i hi
   rw [ho] at ho'
   cases ho'
   exact hd hd'
 have hxs : ∀ (i : Nat) (o : Oper), l[i]? = some o → xs[i]? = some (T i) := by
   intro i o ho
   have hlt : i < l.length := (List.getElem?_eq_some_iff.1 ho).1
   have : i < xs.length := by omega
   simp [T, List.getD_eq_getElem?_getD, List.getElem?_eq_getElem this]
 have hTc : T ci = .c .un := by
   have := k2 ci oC _ hci (hxs ci oC hci)
   simp only [Nat.zero_add, z1M] at this
   exact this.1
 have hPk : ∀ done s, ((stP σ l T done).tm s).kill K = (stP σ l T done).tm s := by
   intro done s
   simp only [stP]
   split
   · split
     · exact hT _
     · exact hσ _
   · exact hσ _
 have hstep : ∀ (done : Nat → Bool) (i s : Nat), fnd l s 0 ≠ some i → (stP σ l T (fun j => match Nat.beq j i with | true => true | false => done j)).tm s = (stP σ l T done).tm s := by
   intro done i s hs
   simp only [stP]
   cases hj : fnd l s 0 with
   | none => rfl
   | some j =>
     have : j ≠ i := by rintro rfl; exact hs hj
     simp only [z0D this]
 refine wp_region_any hm ?_
 have hcnt : cnt (fun j => !(Array.replicate l.toArray.size false).getD j true) l.toArray.size = l.toArray.size := by
   have : ∀ m, m ≤ l.length → cnt (fun j => !(Array.replicate l.toArray.size false).getD j true) m = m := by
     intro m
     induction m with
     | zero => intro _; rfl
     | succ m ih =>
       intro hm
       simp only [cnt, ih (by omega)]
       simp [show m < l.length by omega]
   exact this l.toArray.size (by simp)
 have hcl : ci < l.length := (List.getElem?_eq_some_iff.1 hci).1
 have hul : ui < l.length := (List.getElem?_eq_some_iff.1 hui).1
 refine zeo (P := P) (E := E) (Q := Q) (ops := l.toArray) (l := l) (S := stK σ l T K sc ci ui BC oc) hB0 (fun d d' he => ?_) (fun i o ho done h1 h2 h3 => ?_) (fun a w hS => ?_) l.toArray.size (Array.replicate l.toArray.size false) a { w with drawn := w.drawn + 1 } hcnt
   ⟨by simp, fun j oj _ hl => (by rw [getD_replicate_false] at hl; cases hl), fun t _ ht => getD_in (by simpa using ht) (getD_replicate_false _ _)⟩ ?_
 · have e1 := he ci (by simpa using hcl)
   have e2 := he ui (by simpa using hul)
   have e3 : (stP σ l T d).tm = (stP σ l T d').tm := by
     funext s
     simp only [stP]
     cases hj : fnd l s 0 with
     | none => rfl
     | some j =>
       obtain ⟨o, ho, _⟩ := hfo s j hj
       dsimp only
       rw [he j (by simpa using (List.getElem?_eq_some_iff.1 ho).1)]
   simp only [stK, e1, e2, e3]
 · have ho : l[i]? = some o := by simpa using ho
   have hk := k2 i o _ ho (hxs i o ho)
   have hl := hlike i o ho done h1 h2
   rw [Nat.zero_add] at hk
   by_cases hic : i = ci
   · subst hic
     rw [z1M] at hk
     have hoc : o = oC := by rw [hci] at ho; exact (Option.some.inj ho).symm
     subst hoc
     have hdu0 : done ui = false := h2 ui hw
     have hS0 : stK σ l T K sc i ui BC oc done = stP σ l T done := by
       simp only [stK, h3]
       have e1 : (fun s => match Nat.beq s sc with | true => σ.tm s | false => (stP σ l T done).tm s) = (stP σ l T done).tm := by
         funext s
         cases hb : Nat.beq s sc with
         | false => rfl
         | true =>
           have := Nat.eq_of_beq_eq_true hb
           subst this
           simp only [stP, hfsc, h3]
       have e2 : (fun j => match Nat.beq j K with | true => Blk.gone | false => σ.hp j) = (stP σ l T done).hp := by
         funext j
         cases hb : Nat.beq j K with
         | false => rfl
         | true =>
           have := Nat.eq_of_beq_eq_true hb
           subst this
           exact hσK.symm
       rw [e1, e2]
     rw [hS0]
     refine (hk.2 _ hl ⟨fun s _ => hPk done s, fun j _ => hσh j⟩ (hPk done sc) hσK).weaken fun a w hS => hS.weaken ⟨fun s => .inl ?_, fun j => .inl ?_⟩
     · rw [hsc]
       simp only [St.put, St.set, St.seth, stK, z1M, z0D (Ne.symm hcu), hdu0]
       by_cases hs : s = sc
       · subst hs; simp only [if_pos, z1M]
       · rw [if_neg hs, z0D hs]
         exact (hstep done i s (hnf i o s ho (by rw [hsc]; intro e; exact hs (Option.some.inj e).symm))).symm
     · rw [hsc]
       simp only [St.put, St.set, St.seth, stK, z1M, z0D (Ne.symm hcu), hdu0]
       by_cases hs : j = K
       · subst hs; simp only [if_pos, z1M]
       · rw [if_neg hs, z0D hs]
         rfl
   · rw [z0D hic] at hk
     by_cases hiu : i = ui
     · subst hiu
       simp only [z1M] at hk
       have hoc : o = oU := by rw [hui] at ho; exact (Option.some.inj ho).symm
       subst hoc
       have hdc : done ci = true := h1 ci hdu
       have et : ∀ s, (stK σ l T K sc ci i BC oc done).tm s = match Nat.beq s sc with | true => .c oc | false => (stP σ l T done).tm s := by
         intro s
         simp only [stK, hdc, h3]
       have eh : ∀ j, (stK σ l T K sc ci i BC oc done).hp j = match Nat.beq j K with | true => BC | false => σ.hp j := by
         intro s
         simp only [stK, hdc, h3]
       have ep : ∀ s, (((pre σ (l.take i) (xs.take i)).seth K BC).set sc (.c oc)).tm s = if s = sc then .c oc else (pre σ (l.take i) (xs.take i)).tm s := fun s => rfl
       have hL : Like l.toArray o (stK σ l T K sc ci i BC oc done) (((pre σ (l.take i) (xs.take i)).seth K BC).set sc (.c oc)) := by
         refine ⟨?_, fun x hx => ?_, fun i' b hg d hd => ?_⟩
         · funext j
           rw [eh]
           show _ = if j = K then BC else (pre σ (l.take i) (xs.take i)).hp j
           rw [z4p]
           by_cases hs : j = K
           · subst hs; rw [z1M, if_pos rfl]
           · rw [z0D hs, if_neg hs]
         · cases x with
           | tmp t' =>
             show str ((stK σ l T K sc ci i BC oc done).tm t') = str ((((pre σ (l.take i) (xs.take i)).seth K BC).set sc (.c oc)).tm t')
             rw [et, ep]
             by_cases hs : t' = sc
             · subst hs; rw [z1M, if_pos rfl]
             · rw [z0D hs, if_neg hs]
               exact hl.ox (.tmp t') hx
           | const v => rfl
           | global g => rfl
           | func f => rfl
         · rw [et, ep]
           by_cases hs : d = sc
           · subst hs; rw [z1M, if_pos rfl]
           · rw [z0D hs, if_neg hs]
             exact hl.gd i' b hg d hd
       refine (hk _ hL ⟨fun s hs => by rw [et, z0D hs]; exact hPk done s, fun j hj => by rw [eh, z0D hj]; exact hσh j⟩).weaken fun a w hS => hS.weaken ⟨fun s => .inl ?_, fun j => .inl ?_⟩
       · rw [hsu]
         simp only [St.put, St.set, St.seth]
         by_cases hs : s = su
         · subst hs
           rw [if_pos rfl]
           simp only [stK, z0D (Ne.symm hssn), stP, hfsu, z1M]
         · rw [if_neg hs]
           by_cases hs2 : s = sc
           · subst hs2
             rw [if_pos rfl]
             simp only [stK, z1M, z0D hcu, hdc]
           · rw [if_neg hs2, et, z0D hs2]
             simp only [stK, z0D hs2]
             exact (hstep done i s (hnf i o s ho (by rw [hsu]; intro e; exact hs (Option.some.inj e).symm))).symm
       · rw [hsu]
         simp only [St.put, St.set, St.seth]
         by_cases hs : j = K
         · subst hs
           rw [if_pos rfl]
           simp only [stK, z1M, z0D hcu, hdc]
         · rw [if_neg hs, eh, z0D hs]
           simp only [stK, z0D hs]
     · rw [z0D hiu] at hk
       intro a w hS K' Q' hK'
       obtain ⟨β, F, hS⟩ := hS
       have hS2 : SRb E (fun i => if i = K then none else β i) F (stP σ l T done) a w := by
         refine (hS.kill K hnK).weaken (fun s => ?_) ?_
         · have key : ∀ s, s ≠ sc → ((stK σ l T K sc ci ui BC oc done).kill K).tm s = (stP σ l T done).tm s := by
             intro s hs
             show ((stK σ l T K sc ci ui BC oc done).tm s).kill K = _
             simp only [stK, z0D hs]
             exact hPk done s
           by_cases hs : s = sc
           · subst hs
             simp only [stP, hfsc]
             cases hdc : done ci with
             | true => right; exact hTc
             | false =>
               left
               show σ.tm s = ((stK σ l T K s ci ui BC oc done).tm s).kill K
               simp only [stK, z1M, hdc]
               exact (hσ s).symm
           · exact .inl (key s hs).symm
         · funext j
           by_cases hs : j = K
           · subst hs
             show σ.hp j = (match decide (j = j) with | true => Blk.gone | false => ((stK σ l T j sc ci ui BC oc done).hp j).kill j)
             simp only [decide_true]
             exact hσK
           · show σ.hp j = (match decide (j = K) with | true => Blk.gone | false => ((stK σ l T K sc ci ui BC oc done).hp j).kill K)
             simp only [hs, decide_false, stK, z0D hs]
             exact (hσh j).symm
       have hqq := hk _ hl _ F a w hS2 K' Q' fun v w' F' g1 g2 g3 g4 => by
         refine hK' _ _ ⟨β, F', ?_⟩
         have hb := hS.grown g1 g2 g3
         have g5 : AvR β F' w' (T i) v := g4.mono (fun j g hj => by
           split at hj
           · cases hj
           · exact hj) (fun b hb => ⟨hb, rfl⟩) (fun _ _ h => h)
         have e1 : ∀ j, (stK σ l T K sc ci ui BC oc (fun j => match Nat.beq j i with | true => true | false => done j)).hp j = (stK σ l T K sc ci ui BC oc done).hp j := by
           intro j
           simp only [stK, z0D (Ne.symm hic), z0D (Ne.symm hiu)]
         have e2 : ∀ s, fnd l s 0 ≠ some i → (stK σ l T K sc ci ui BC oc (fun j => match Nat.beq j i with | true => true | false => done j)).tm s = (stK σ l T K sc ci ui BC oc done).tm s := by
           intro s hs
           simp only [stK, z0D (Ne.symm hic), z0D (Ne.symm hiu)]
           rw [hstep done i s hs]
         refine (hb.put (d := o.dst) g5 (fun k hk => by
           have := z0o (List.all_eq_true.1 hE o (List.mem_of_getElem? ho))
           exact this k hk)).weaken (fun s => .inl ?_) ?_
         · cases hd : o.dst with
           | none => exact e2 s (hnf i o s ho (by rw [hd]; intro e; cases e))
           | some d =>
             simp only [St.put, St.set]
             by_cases hs : s = d
             · subst hs
               rw [if_pos rfl]
               have hsn : s ≠ sc := by
                 rintro rfl
                 have := hfd i o s ho hd
                 rw [hfsc] at this
                 exact hic (Option.some.inj this).symm
               simp only [stK, z0D hsn, stP, hfd i o s ho hd, z1M]
             · rw [if_neg hs]
               exact e2 s (hnf i o s ho (by rw [hd]; intro e; exact hs (Option.some.inj e).symm))
         · have e3 : ((stK σ l T K sc ci ui BC oc done).put o.dst (T i)).hp = (stK σ l T K sc ci ui BC oc done).hp := by cases o.dst <;> rfl
           rw [e3]
           funext j
           exact e1 j
       split
       · rename_i hw'; rw [if_pos hw'] at hqq; exact .inl hqq
       · rename_i hw'; rw [if_neg hw'] at hqq; exact hqq
 · refine k3 a w (hS.weaken ⟨fun s => .inl ?_, fun j => .inl ?_⟩)
   · rw [z2X _ _ _ _ hf k1]
     by_cases hs : s = sc
     · subst hs
       simp only [stK, z1M, hfsc]
       exact hTc.symm
     · simp only [stK, z0D hs, stP]
       cases fnd l s 0 <;> rfl
   · rw [z4p]
     by_cases hs : j = K
     · subst hs
       simp only [stK, z1M]
       exact hσK.symm
     · simp only [stK, z0D hs]
 · obtain ⟨β, F, hS⟩ := hS
   refine ⟨β, F, (hS.drawn _).weaken (fun s => .inl ?_) ?_⟩
   · simp only [stK, getD_replicate_false, stP]
     cases Nat.beq s sc with
     | true => rfl
     | false => cases fnd l s 0 <;> rfl
   · funext j
     simp only [stK, getD_replicate_false]
     cases hb : Nat.beq j K with
     | false => rfl
     | true => rw [Nat.eq_of_beq_eq_true hb]; exact hσK.symm
theorem z6U {K sc ci ui i : Nat} {BC : Blk} {oc : Cell} {C : St → Prop} (h : C σ) : z4h P E ops K sc ci ui BC oc i [] σ C := h
theorem z3e {K sc ci ui i : Nat} {BC : Blk} {oc : Cell} {l : List Oper} {C : St → Prop} {d : Option Nat} (hi : Nat.beq i ci = false) (hu : Nat.beq i ui = false) (hd : z0e o.dst some = some d) (h : OpS P E ops o σ x) (hx : x.kill K = x)
   (hk : z4h P E ops K sc ci ui BC oc (i + 1) l (σ.put d x) C) : z4h P E ops K sc ci ui BC oc i (o :: l) σ C := by
 simp only [z0g, Option.some.injEq] at hd
 refine ⟨d, x, hd.symm, hx, ?_, hk⟩
 rw [hi]
 dsimp only
 rw [hu]
 exact h
theorem zhs {K sc ci ui i : Nat} {BC : Blk} {oc : Cell} {l : List Oper} {C : St → Prop} {d : Option Nat} (hi : Nat.beq i ci = true) (hd : z0e o.dst some = some d) (h : ∀ τ, Like ops o τ σ → kfr K sc τ → (τ.tm sc).kill K = τ.tm sc → τ.hp K = .gone → OpT P E ops o τ ((τ.seth K BC).put o.dst (.c oc)))
   (hk : z4h P E ops K sc ci ui BC oc (i + 1) l (σ.put d (.c .un)) C) : z4h P E ops K sc ci ui BC oc i (o :: l) σ C := by
 simp only [z0g, Option.some.injEq] at hd
 refine ⟨d, _, hd.symm, rfl, ?_, hk⟩
 rw [hi]
 subst hd
 exact ⟨rfl, h⟩
theorem zht {K sc ci ui i : Nat} {BC : Blk} {oc : Cell} {l : List Oper} {C : St → Prop} {d : Option Nat} (hi : Nat.beq i ci = false) (hu : Nat.beq i ui = true) (hd : z0e o.dst some = some d) (h : ∀ τ, Like ops o τ ((σ.seth K BC).set sc (.c oc)) → kfr K sc τ → OpT P E ops o τ (((τ.set sc (.c .un)).seth K .gone).put o.dst x)) (hx : x.kill K = x)
   (hk : z4h P E ops K sc ci ui BC oc (i + 1) l (σ.put d x) C) : z4h P E ops K sc ci ui BC oc i (o :: l) σ C := by
 simp only [z0g, Option.some.injEq] at hd
 refine ⟨d, x, hd.symm, hx, ?_, hk⟩
 rw [hi]
 dsimp only
 rw [hu]
 subst hd
 exact h
theorem z8v {K : Nat} : ∀ {l : List (Nat × Av)}, (∀ p ∈ l, p.2.kill K = p.2) → ∀ s, (z2S (.c .un) l s).kill K = z2S (.c .un) l s
 | [], _, s => rfl
 | (i, y) :: l, h, s => by
   simp only [z2S]
   split
   · exact h (i, y) (List.mem_cons_self ..)
   · exact z8v (fun p hp => h p (List.mem_cons_of_mem _ hp)) s
theorem z7x {K : Nat} : ∀ {l : List (Nat × Blk)}, (∀ p ∈ l, p.2.kill K = p.2) → ∀ s, (z2S .gone l s).kill K = z2S .gone l s
 | [], _, s => rfl
 | (i, y) :: l, h, s => by
   simp only [z2S]
   split
   · exact h (i, y) (List.mem_cons_self ..)
   · exact z7x (fun p hp => h p (List.mem_cons_of_mem _ hp)) s
theorem zep {K : Nat} {l : List (Nat × Av)} {h' : List (Nat × Blk)} (h : z03 (l.map fun p => p.2.kill K = p.2)) : ∀ s, ((St.of l h').tm s).kill K = (St.of l h').tm s := z8v (z19 h)
theorem zd6 {K : Nat} {l : List (Nat × Av)} {h' : List (Nat × Blk)} (h : z03 (h'.map fun p => p.2.kill K = p.2)) : ∀ s, ((St.of l h').hp s).kill K = (St.of l h').hp s := z7x (z19 h)
end
end Go.Sx

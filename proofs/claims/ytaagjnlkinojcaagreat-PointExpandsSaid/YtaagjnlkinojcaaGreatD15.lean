/-
  Clock: the next time at a cursor. The conditions: rows of bytes that a machine can hold.
-/
import Derived.Test.YtaagjnlkinojcaaGreatSxX
import Derived.Test.YtaagjnlkinojcaaGreatD8
namespace Go.Sx
open Go
set_option linter.unusedVariables false
set_option linter.unusedSimpArgs false
section
variable {P : Program} {E : Env} {ops : Array Oper} {Q : Exit → Act → World → Prop} {σ : St}
theorem zez {l : List Oper} {fr : List Nat} {T : Nat → Av} {hs : Nat → Nat → Blk} {Kp : (Nat → Blk) → Prop} (hKp : ∀ p, p ≤ ops.size → Kp (hs p)) (hl : ∀ s i, fnd l s 0 = some i → i < ops.size ∧ (ops[i]?).bind (·.dst) = some s) (hB : z5j ops l fr = true) (hlo : ∀ (i : Nat) (o : Oper), ops[i]? = some o → o ∈ l)
   (hE : ∀ (d : Nat) (o : Oper) (i : Nat), ops[i]? = some o → o.dst = some d → d < E.n) (h0 : hs 0 = σ.hp) (hc : ∀ i : Nat, stI ops i = false → hs (i + 1) = hs i)
   (hq : ∀ (i : Nat) (o : Oper), ops[i]? = some o → z1D o = false → ∀ hp, (z07 i fr = false → hp = hs i) → Kp hp → OpQ P E ops o ⟨(stD σ l T (fun j => z07 j (z0u o))).tm, hp⟩ (T i))
   (hst : ∀ (i : Nat) (o : Oper), ops[i]? = some o → z1D o = true → ∀ tm : Nat → Av, (∀ x, x ∈ o.op.operands.toList → ox ⟨tm, hs i⟩ x = ox ⟨(stD σ l T (fun j => z07 j (z0u o))).tm, hs i⟩ x) → z9J P E o ⟨tm, hs i⟩ ⟨tm, hs (i + 1)⟩)
   (hk : ∀ a w, SR E ⟨(stD σ l T (fun _ => true)).tm, hs ops.size⟩ a w → Q .normal a w) :
   ∀ (m : Nat) (listed : Array Bool) (a : Act) (w : World), cnt (fun j => !listed.getD j true) ops.size = m → HeadInv .any ops ops.size listed →
     (∃ p, p ≤ ops.size ∧ (∀ s, stI ops s = true → (listed.getD s false = true ↔ s < p)) ∧ ∃ β F, SRb E β F ⟨(stD σ l T (fun j => listed.getD j false)).tm, hs p⟩ a w) →
     wpAny P .any ops Q m listed a w := by
 simp only [z5j, Bool.and_eq_true, List.all_eq_true, List.mem_range] at hB
 obtain ⟨⟨hf, hlk⟩, hB⟩ := hB
 intro m
 induction m with
 | zero =>
   intro listed a w hcn hI ⟨p, hp, hps, β, F, hS⟩
   have hall := z2V ops.size hcn
   refine ⟨?_, hk a w ⟨β, F, ?_⟩⟩
   · cases hr : Region.ready .any ops listed with
     | nil => rfl
     | cons i r =>
       have hi : i ∈ Region.ready .any ops listed := by rw [hr]; exact List.mem_cons_self ..
       obtain ⟨h1, o, ho, _⟩ := mem_ready.1 hi
       have hlt := (Array.getElem?_eq_some_iff.1 ho).1
       have := hall i hlt
       rw [h1] at this; cases this
   · have hpe : hs p = hs ops.size := by
       have := z2F hc (ops.size - p) p (fun i h1 h2 => by
         cases hsi : stI ops i with
         | false => rfl
         | true =>
           have h3 := hall i (by omega)
           have hs' : i < listed.size := by rw [hI.size]; omega
           have : listed.getD i false = true := by simp [hs'] at h3 ⊢; exact h3
           have := (hps i hsi).1 this
           omega)
       rw [show p + (ops.size - p) = ops.size by omega] at this
       exact this.symm
     rw [← hpe]
     refine hS.weaken (fun s => .inl ?_) rfl
     simp only [stD]
     split
     · rename_i i hi
       have hlt := (hl s i hi).1
       have h1 := hall i hlt
       have hs' : i < listed.size := by rw [hI.size]; omega
       simp [hs'] at h1
       simp [hs', h1]
     · rfl
 | succ m ih =>
   intro listed a w hcn hI ⟨p, hp, hps, β, F, hS⟩
   obtain ⟨i0, h1, h2, h3⟩ := z2W ops.size (by omega : cnt (fun j => !listed.getD j true) ops.size ≠ 0)
   have h2' : listed.getD i0 true = false := by simpa using h2
   have hr0 : i0 ∈ Region.ready .any ops listed := by
     refine mem_ready.2 ⟨h2', ?_⟩
     have := hB i0 h1
     split at this
     · rename_i o ho
       simp only [Bool.and_eq_true, List.all_eq_true] at this
       refine ⟨o, ho, fun e he hbn => ?_⟩
       have h4 : e.on < i0 := z0L (by simpa [hbn] using this.1.1 e (by simpa using he))
       have h5 := h3 e.on h4
       have hs' : e.on < listed.size := by rw [hI.size]; omega
       simp [hs'] at h5
       simp [hs', h5]
     · cases this
   refine ⟨fun h => (by rw [h] at hr0; cases hr0), fun i hi => ?_⟩
   obtain ⟨hun, o, ho, hdeps⟩ := mem_ready.1 hi
   have hin : i < ops.size := (Array.getElem?_eq_some_iff.1 ho).1
   have hs' : i < listed.size := by rw [hI.size]; omega
   have hunf : listed.getD i false = false := by simp [hs'] at hun ⊢; exact hun
   have hBi := hB i hin
   rw [ho] at hBi
   simp only [Bool.and_eq_true] at hBi
   obtain ⟨⟨_, hBd⟩, hBs⟩ := hBi
   have hcnt : cnt (fun j => !(listed.setIfInBounds i true).getD j true) ops.size = m := by
     have := z40 (f := fun j => !listed.getD j true) (f' := fun j => !(listed.setIfInBounds i true).getD j true) (i := i) (by simp [hun]) (by simp [hs']) (fun j hj => by simp only [getD_set_ne true (Ne.symm hj)]) ops.size
     rw [if_pos hin] at this
     omega
   have hsti : stI ops i = z1D o := by simp only [stI, ho]
   have hmemb : ∀ (x : Nat) (l : List Nat), z07 x l = true → x ∈ l := by
     intro x l
     induction l with
     | nil => intro h; cases h
     | cons y l ih =>
       intro h
       simp only [z07] at h
       split at h
       · rename_i e; rw [Nat.eq_of_beq_eq_true e]; exact List.mem_cons_self ..
       · exact List.mem_cons_of_mem _ (ih h)
   have hdep : ∀ j, z07 j (z0u o) = true → listed.getD j false = true := by
     intro j hj
     have := hmemb _ _ hj
     simp only [z0u, List.mem_map, List.mem_filter] at this
     obtain ⟨e, ⟨he1, he2⟩, rfl⟩ := this
     exact hdeps e (by simpa using he1) he2
   cases hsto : z1D o with
   | true =>
     rw [hsto] at hBs
     simp only [Bool.and_eq_true, List.all_eq_true, List.mem_range, Option.isNone_iff_eq_none] at hBs
     obtain ⟨⟨hd0, hg0⟩, hprev⟩ := hBs
     have hpi : p ≤ i := by
       rcases Nat.lt_or_ge i p with h | h
       · have := (hps i (by rw [hsti, hsto])).2 h
         rw [hunf] at this; cases this
       · exact h
     have hbefore : ∀ s, stI ops s = true → s < i → listed.getD s false = true := by
       intro s hss hsi
       have := hprev s hsi
       simp only [stI] at hss
       split at this
       · rename_i q hq'
         rw [hq'] at hss
         simp only [hss, Bool.not_true, Bool.false_or] at this
         exact z4q hI hi this
       · rename_i hq'; rw [hq'] at hss; cases hss
     have hpe : hs i = hs p := by
       have := z2F hc (i - p) p (fun k k1 k2 => by
         cases hsk : stI ops k with
         | false => rfl
         | true =>
           have := (hps k hsk).1 (hbefore k hsk (by omega))
           omega)
       rw [show p + (i - p) = i by omega] at this
       exact this
     rw [← hpe] at hS
     have hlook := hlk o (hlo i o ho)
     simp only [z50, Bool.and_eq_true, List.all_eq_true] at hlook
     have hstep := hst i o ho hsto (stD σ l T (fun j => listed.getD j false)).tm (fun x hx => by
       cases x with
       | tmp t =>
         have := hlook.1 (.tmp t) hx
         dsimp only at this
         show str _ = str _
         simp only [ev, stD]
         cases hfd : fnd l t 0 with
         | none => rfl
         | some j =>
           rw [hfd] at this
           dsimp only at this ⊢
           rw [this, hdep j this]
       | const v => rfl
       | global g => rfl
       | func f => rfl)
     obtain ⟨w', hrun, hSR⟩ := hstep a w ⟨β, F, hS⟩
     obtain ⟨β', F', hS'⟩ := hSR
     rw [hd0] at hS'
     have hfin := ih (listed.setIfInBounds i true) a w' hcnt (hI.set hi hin) ⟨i + 1, hin, fun s hss => ?_, β', F', ?_⟩
     · unfold wpOp
       rw [ho]
       dsimp only
       rw [show Region.wanted o (yielded ops a.tmps) = true by simp [Region.wanted, hg0], if_pos rfl]
       left
       unfold Oper.wp
       rw [hrun]
       show wpAny P .any ops Q m (listed.setIfInBounds i true) (a.put o.dst undef) w'
       rw [hd0]
       exact hfin
     · by_cases hsi : s = i
       · subst hsi; simp [hs']
       · rw [getD_set_ne false (Ne.symm hsi)]
         constructor
         · intro h
           have := (hps s hss).1 h
           omega
         · intro h
           exact hbefore s hss (by omega)
     · have e : (stD σ l T (fun j => (listed.setIfInBounds i true).getD j false)).tm = (stD σ l T (fun j => listed.getD j false)).tm := by
         funext s
         simp only [stD]
         split
         · rename_i j hj
           have hjs := (hl s j hj).2
           have hji : j ≠ i := by rintro rfl; rw [ho] at hjs; simp [hd0] at hjs
           rw [getD_set_ne false (Ne.symm hji)]
         · rfl
       rw [e]
       exact hS'
   | false =>
     have hok : z07 i fr = false → hs p = hs i := by
       intro hfr
       rw [hsto, hfr] at hBs
       simp only [Bool.false_or, List.all_eq_true, List.mem_range] at hBs
       have key : ∀ s, stI ops s = true → (s < i → listed.getD s false = true) ∧ (i < s → listed.getD s false = false) := by
         intro s hss
         have hssz : s < ops.size := by
           simp only [stI] at hss
           cases hq' : ops[s]? with
           | none => rw [hq'] at hss; cases hss
           | some q => exact (Array.getElem?_eq_some_iff.1 hq').1
         have := hBs s hssz
         simp only [stI] at hss
         split at this
         · rename_i q hq'
           rw [hq'] at hss
           dsimp only at hss
           simp only [hss, Bool.not_true, Bool.false_or] at this
           constructor
           · intro hlt
             rw [show Nat.blt s i = true by rw [Nat.blt_eq]; exact hlt] at this
             exact z4q hI hi this
           · intro hlt
             have hb : Nat.blt s i = false := by
               cases h : Nat.blt s i with
               | false => rfl
               | true => rw [Nat.blt_eq] at h; omega
             rw [hb] at this
             cases h : listed.getD s false with
             | false => rfl
             | true => have := z2E hI 4 s i this h; rw [hunf] at this; cases this
         · rename_i hq'; rw [hq'] at hss; cases hss
       rcases Nat.le_total p i with h | h
       · have := z2F hc (i - p) p (fun k k1 k2 => by
           cases hsk : stI ops k with
           | false => rfl
           | true => have := (hps k hsk).1 ((key k hsk).1 (by omega)); omega)
         rw [show p + (i - p) = i by omega] at this
         exact this.symm
       · have := z2F hc (p - i) i (fun k k1 k2 => by
           cases hsk : stI ops k with
           | false => rfl
           | true =>
             rcases Nat.lt_or_ge i k with h' | h'
             · have h6 := (key k hsk).2 h'
               have h7 := (hps k hsk).2 (by omega)
               rw [h6] at h7; cases h7
             · have : k = i := by omega
               subst this
               rw [hsti, hsto] at hsk; cases hsk)
         rw [show i + (p - i) = p by omega] at this
         exact this
     have hmin : SRb E β F ⟨(stD σ l T (fun j => z07 j (z0u o))).tm, hs p⟩ a w := by
       refine hS.weaken (fun s => ?_) rfl
       simp only [stD]
       split
       · rename_i j hj
         cases hm : z07 j (z0u o) with
         | false => exact .inr rfl
         | true => left; rw [hdep j hm]
       · exact .inl rfl
     have hqq := hq i o ho hsto (hs p) hok (hKp p hp) β F a w hmin (fun a' w' => wpAny P .any ops Q m (listed.setIfInBounds i true) a' w') Q fun v w' F' g1 g2 g3 g4 => by
       refine ih _ _ _ hcnt (hI.set hi hin) ⟨p, hp, fun s hss => ?_, β, F', ?_⟩
       · have hsi : s ≠ i := by rintro rfl; rw [hsti, hsto] at hss; cases hss
         rw [getD_set_ne false (Ne.symm hsi)]
         exact hps s hss
       · have hb := hS.grown g1 g2 g3
         cases hd : o.dst with
         | none =>
           have e : (stD σ l T (fun j => (listed.setIfInBounds i true).getD j false)).tm = (stD σ l T (fun j => listed.getD j false)).tm := by
             funext s
             simp only [stD]
             split
             · rename_i j hj
               have hjs := (hl s j hj).2
               have hji : j ≠ i := by rintro rfl; rw [ho] at hjs; simp [hd] at hjs
               rw [getD_set_ne false (Ne.symm hji)]
             · rfl
           rw [e]
           exact hb
         | some d =>
           rw [hd] at hBd
           have hfd : fnd l d 0 = some i := by
             dsimp only at hBd
             split at hBd
             · rename_i j hj; rw [hj, Nat.eq_of_beq_eq_true hBd]
             · cases hBd
           have hp' := hb.put (d := some d) g4 (fun k hk => by cases hk; exact hE d o i ho hd)
           refine hp'.weaken (fun s => .inl ?_) rfl
           simp only [stD, St.put, St.set]
           by_cases hsd : s = d
           · subst hsd
             simp [hfd, hs']
           · rw [if_neg hsd]
             split
             · rename_i j hj
               have hji : j ≠ i := by
                 rintro rfl
                 have h5 := (hl s j hj).2
                 rw [ho] at h5
                 simp [hd] at h5
                 exact hsd h5.symm
               rw [getD_set_ne false (Ne.symm hji)]
             · rfl
     unfold wpOp
     rw [ho]
     dsimp only
     split
     · rename_i hw; rw [if_pos hw] at hqq; exact .inl hqq
     · rename_i hw; rw [if_neg hw] at hqq; exact hqq
def z3U (P : Program) (E : Env) (ops : Array Oper) (fr : List Nat) (Kp : (Nat → Blk) → Prop) : List Oper → Nat → St → (St → Prop) → Prop
 | [], _, σ, K => K σ
 | o :: l, i, σ, K => (z1D o = true ∧ o.dst = none ∧ ∃ h', StS P E o σ h' ∧ Kp h' ∧ z3U P E ops fr Kp l (i + 1) ⟨σ.tm, h'⟩ K) ∨
     (z1D o = false ∧ ∃ x, (∀ hp, (z07 i fr = false → hp = σ.hp) → Kp hp → OpS P E ops o ⟨σ.tm, hp⟩ x) ∧ z3U P E ops fr Kp l (i + 1) (σ.put o.dst x) K)
theorem zeA {fr : List Nat} {Kp : (Nat → Blk) → Prop} {i : Nat} {K : St → Prop} (h : K σ) : z3U P E ops fr Kp [] i σ K := h
theorem z6h {fr : List Nat} {Kp : (Nat → Blk) → Prop} {i : Nat} {K : St → Prop} {o : Oper} {l : List Oper} {x : Av} {d : Option Nat} (h1 : z1D o = false) (h2 : z07 i fr = false) (hd : z0e o.dst some = some d) (h : OpS P E ops o σ x) (hk : z3U P E ops fr Kp l (i + 1) (σ.put d x) K) : z3U P E ops fr Kp (o :: l) i σ K := by
 simp only [z0g, Option.some.injEq] at hd
 subst hd
 exact .inr ⟨h1, x, fun hp e _ => (by rw [e h2]; exact h), hk⟩
theorem z7Q {fr : List Nat} {Kp : (Nat → Blk) → Prop} {i : Nat} {K : St → Prop} {o : Oper} {l : List Oper} {x : Av} {d : Option Nat} (h1 : z1D o = false) (h2 : z07 i fr = true) (hd : z0e o.dst some = some d) (h : ∀ hp, Kp hp → OpS P E ops o ⟨σ.tm, hp⟩ x) (hk : z3U P E ops fr Kp l (i + 1) (σ.put d x) K) : z3U P E ops fr Kp (o :: l) i σ K := by
 simp only [z0g, Option.some.injEq] at hd
 subst hd
 exact .inr ⟨h1, x, fun hp _ hK => h hp hK, hk⟩
theorem z6V {fr : List Nat} {Kp : (Nat → Blk) → Prop} : ∀ (l : List Oper) (k : Nat) (σ : St) (K : St → Prop), z3U P E ops fr Kp l k σ K → Kp σ.hp → ∃ (xs : List Av) (hs : Nat → Nat → Blk), xs.length = l.length ∧ hs 0 = σ.hp ∧ (∀ j, l.length ≤ j → hs (j + 1) = hs j) ∧
   (∀ j o, l[j]? = some o → z1D o = false → hs (j + 1) = hs j ∧ ∀ x, xs[j]? = some x → ∀ hp, (z07 (k + j) fr = false → hp = hs j) → Kp hp → OpS P E ops o ⟨(pre σ (l.take j) (xs.take j)).tm, hp⟩ x) ∧
   (∀ j o, l[j]? = some o → z1D o = true → StS P E o ⟨(pre σ (l.take j) (xs.take j)).tm, hs j⟩ (hs (j + 1))) ∧ K ⟨(pre σ l xs).tm, hs l.length⟩ ∧ ∀ j, Kp (hs j)
 | [], k, σ, K, h, hk0 => ⟨[], fun _ => σ.hp, rfl, rfl, fun _ _ => rfl, fun j o h => by simp at h, fun j o h => by simp at h, h, fun _ => hk0⟩
 | o :: l, k, σ, K, h, hk0 => by
   rcases h with ⟨h1, h2, h', h3, hkp, h4⟩ | ⟨h1, x, h3, h4⟩
   · obtain ⟨xs, hs, k1, k2, k3, k4, k5, k6, k7⟩ := z6V l _ _ K h4 hkp
     have e : ∀ (l : List Oper) (xs : List Av), (pre (σ.put o.dst (.c .un)) l xs).tm = (pre ⟨σ.tm, h'⟩ l xs).tm := by
       rw [h2]
       have key : ∀ (l : List Oper) (xs : List Av) (σ τ : St), σ.tm = τ.tm → (pre σ l xs).tm = (pre τ l xs).tm := by
         intro l
         induction l with
         | nil => intro xs σ τ h; exact h
         | cons q l ih =>
           intro xs σ τ h
           cases xs with
           | nil => exact h
           | cons x xs => exact ih xs _ _ (by cases q.dst <;> simp [St.put, St.set, h])
       exact fun l xs => key l xs _ _ rfl
     refine ⟨.c .un :: xs, fun | 0 => σ.hp | j + 1 => hs j, by simp [k1], rfl, fun j hj => ?_, fun j q hq hst => ?_, fun j q hq hst => ?_, ?_, fun j => ?_⟩
     · cases j with
       | zero => simp at hj
       | succ j => exact k3 j (by simpa using hj)
     · cases j with
       | zero => simp at hq; subst hq; rw [h1] at hst; cases hst
       | succ j =>
         obtain ⟨q1, q2⟩ := k4 j q (by simpa using hq) hst
         refine ⟨q1, fun x hx hp hh hK => ?_⟩
         have := q2 x (by simpa using hx) hp (by rw [show k + 1 + j = k + (j + 1) by omega]; exact hh) hK
         simp only [List.take_succ_cons, pre]
         rw [e]
         exact this
     · cases j with
       | zero =>
         simp at hq; subst hq
         show StS P E o ⟨σ.tm, σ.hp⟩ (hs 0)
         rw [k2]; exact h3
       | succ j =>
         have := k5 j q (by simpa using hq) hst
         simp only [List.take_succ_cons, pre]
         rw [e]
         exact this
     · simp only [pre]
       rw [e]
       exact k6
     · cases j with
       | zero => exact hk0
       | succ j => exact k7 j
   · obtain ⟨xs, hs, k1, k2, k3, k4, k5, k6, k7⟩ := z6V l _ _ K h4 (by cases o.dst <;> exact hk0)
     have hput : (σ.put o.dst x).hp = σ.hp := by cases o.dst <;> rfl
     refine ⟨x :: xs, fun | 0 => σ.hp | j + 1 => hs j, by simp [k1], rfl, fun j hj => ?_, fun j q hq hst => ?_, fun j q hq hst => ?_, ?_, fun j => ?_⟩
     · cases j with
       | zero => simp at hj
       | succ j => exact k3 j (by simpa using hj)
     · cases j with
       | zero =>
         simp at hq; subst hq
         refine ⟨by show hs 0 = σ.hp; rw [k2, hput], fun y hy hp hh hK => ?_⟩
         simp at hy; subst hy
         exact h3 hp hh hK
       | succ j =>
         obtain ⟨q1, q2⟩ := k4 j q (by simpa using hq) hst
         refine ⟨q1, fun x hx hp hh hK => ?_⟩
         have := q2 x (by simpa using hx) hp (by rw [show k + 1 + j = k + (j + 1) by omega]; exact hh) hK
         simpa only [List.take_succ_cons, pre] using this
     · cases j with
       | zero => simp at hq; subst hq; rw [h1] at hst; cases hst
       | succ j =>
         have := k5 j q (by simpa using hq) hst
         simpa only [List.take_succ_cons, pre] using this
     · exact k6
     · cases j with
       | zero => exact hk0
       | succ j => exact k7 j
theorem zhz {id : Nat} {l : List Oper} (fr : List Nat) (Kp : (Nat → Blk) → Prop) (hm : P.follows .mixedOrders = true) (hB : z5j l.toArray l fr = true) (hE : l.all (fun o => z08 E.n o.dst) = true)
   (hk0 : Kp σ.hp) (h : z3U P E l.toArray fr Kp l 0 σ (fun τ => WL P E l.toArray Q [] τ)) : W P E (.region id l.toArray true) Q σ := by
 intro a w hS
 obtain ⟨xs, hs, k1, k2, k3, k4, k5, k6, k7⟩ := z6V _ _ _ _ h hk0
 have hB0 := hB
 simp only [z5j, Bool.and_eq_true, List.all_eq_true, List.mem_range] at hB
 obtain ⟨⟨hf, hlk⟩, hB⟩ := hB
 have hdep : ∀ (i : Nat) (o : Oper), l[i]? = some o → ∀ j, z07 j (z0u o) = true → j < i := by
   intro i o ho j hj
   have hin : i < l.toArray.size := by simpa using (List.getElem?_eq_some_iff.1 ho).1
   have := hB i hin
   rw [show l.toArray[i]? = some o by simpa using ho] at this
   simp only [Bool.and_eq_true, List.all_eq_true] at this
   have hm := z2Y _ _ hj
   simp only [z0u, List.mem_map, List.mem_filter] at hm
   obtain ⟨e, ⟨he1, he2⟩, rfl⟩ := hm
   exact z0L (by simpa [he2] using this.1.1 e (by simpa using he1))
 have hlook : ∀ (i : Nat) (o : Oper), l[i]? = some o → ∀ hp, Like l.toArray o ⟨(stD σ l (fun j => xs.getD j (.c .un)) (fun j => z07 j (z0u o))).tm, hp⟩ ⟨(pre σ (l.take i) (xs.take i)).tm, hp⟩ := by
   intro i o ho hp
   have hlk := hlk o (List.mem_of_getElem? ho)
   simp only [z50, Bool.and_eq_true, List.all_eq_true] at hlk
   refine ⟨rfl, fun x hx => ?_, fun i' b hg d hd => ?_⟩
   · cases x with
     | tmp t =>
       have := hlk.1 (.tmp t) hx
       show str _ = str _
       simp only [ev]
       rw [z7d hf k1 (hdep i o ho) this]
     | const v => rfl
     | global g => rfl
     | func f => rfl
   · have := hlk.2
     rw [hg] at this
     dsimp only at this
     rw [hd] at this
     exact z7d hf k1 (hdep i o ho) this
 refine wp_region_any hm ?_
 have hcnt : cnt (fun j => !(Array.replicate l.toArray.size false).getD j true) l.toArray.size = l.toArray.size := by
   have : ∀ m, m ≤ l.length → cnt (fun j => !(Array.replicate l.toArray.size false).getD j true) m = m := by
     intro m
     induction m with
     | zero => intro _; rfl
     | succ m ih =>
       intro hm
       simp only [cnt, ih (by omega)]
       simp [show m < l.length by omega]
   exact this l.toArray.size (by simp)
 have hget : ∀ (i : Nat) (o : Oper), l.toArray[i]? = some o → l[i]? = some o := fun i o h => by simpa using h
 have hxs : ∀ (i : Nat) (o : Oper), l[i]? = some o → xs[i]? = some (xs.getD i (.c .un)) := by
   intro i o ho
   have hlt : i < l.length := (List.getElem?_eq_some_iff.1 ho).1
   have : i < xs.length := by omega
   simp [List.getD_eq_getElem?_getD, List.getElem?_eq_getElem this]
 exact zez (P := P) (E := E) (ops := l.toArray) (Q := Q) (σ := σ) (l := l) (fr := fr) (T := fun j => xs.getD j (.c .un)) (hs := hs) (Kp := Kp) (fun p _ => k7 p)
   (fun s i hi => by
     obtain ⟨_, h5⟩ := z25 _ _ _ _ hi
     rw [Nat.sub_zero] at h5
     obtain ⟨o, ho, hod⟩ := Option.bind_eq_some_iff.1 h5
     exact ⟨by simpa using (List.getElem?_eq_some_iff.1 ho).1, by simp [ho, hod]⟩)
   hB0 (fun i o ho => List.mem_of_getElem? (hget i o ho)) (fun d o i ho hd => z0o (List.all_eq_true.1 hE o (List.mem_of_getElem? (hget i o ho))) d hd)
   k2
   (fun i hi => by
     rcases Nat.lt_or_ge i l.length with h | h
     · have ho : l[i]? = some l[i] := by simp [h]
       have : z1D l[i] = false := by simpa [stI, h] using hi
       exact (k4 i _ ho this).1
     · exact k3 i h)
   (fun i o ho hst hp hh hK => by
     have ho := hget i o ho
     exact (k4 i o ho hst).2 _ (hxs i o ho) hp (by rw [Nat.zero_add]; exact hh) hK _ (hlook i o ho hp))
   (fun i o ho hst tm hx => by
     have ho := hget i o ho
     refine k5 i o ho hst tm fun x hx' => ?_
     rw [hx x hx']
     exact (hlook i o ho (hs i)).ox x hx')
   (fun a w hS => k6 a w (by
     obtain ⟨β, F, hS⟩ := hS
     rw [show l.toArray.size = l.length by simp] at hS
     refine ⟨β, F, hS.weaken (fun s => .inl ?_) rfl⟩
     rw [z2X _ _ _ _ hf k1]
     simp only [stD]
     all_goals (cases fnd l s 0 <;> simp)))
   l.toArray.size (Array.replicate l.toArray.size false) a { w with drawn := w.drawn + 1 } hcnt
   ⟨by simp, fun j oj _ hl => (by rw [getD_replicate_false] at hl; cases hl), fun t _ ht => getD_in (by simpa using ht) (getD_replicate_false _ _)⟩
   ⟨0, Nat.zero_le _, fun s _ => by rw [getD_replicate_false]; simp, by
     obtain ⟨β, F, hS⟩ := hS
     refine ⟨β, F, (hS.drawn _).weaken (fun s => ?_) (by rw [k2])⟩
     simp only [stD]
     split
     · rename_i i hi
       rw [getD_replicate_false]
       exact .inr rfl
     · exact .inl rfl⟩
theorem zbq {fr : List Nat} {Kp : (Nat → Blk) → Prop} {i : Nat} {K : St → Prop} {o : Oper} {rest : List Oper} {t : TypeId} {x y : Operand} {px py : List Prop} {j off : Nat} {v : Av} {cs xs cs' : List Cell} (hop : o.op = .store t x y) (hdn : o.dst = none) (hx : ox σ x = (px, .c (.ptr j off))) (hy : ox σ y = (py, v)) (hp' : z03 (px ++ py))
   (hb : σ.hp j = .cells cs) (hxs : z1q v = some xs) (hu : z2s v = false) (h1 : P.cellsOf t = xs.length) (h2 : (P.info? t).isSome = true) (h3 : Nat.ble (off + xs.length) cs.length = true) (hf : z2e (z4Q cs off xs) some = some cs')
   (hK : Kp (σ.seth j (.cells cs')).hp) (hk : z3U P E ops fr Kp rest (i + 1) (σ.seth j (.cells cs')) K) : z3U P E ops fr Kp (o :: rest) i σ K := by
 simp only [z3a, Option.some.injEq] at hf
 subst hf
 obtain ⟨tm, hp⟩ := σ
 exact .inl ⟨by simp only [z1D, hop], hdn, _, zdW hop hdn hx hy hp' hb hxs hu ⟨h1, h2, Nat.le_of_ble_eq_true h3⟩, hK, hk⟩
end
end Go.Sx

namespace Go.Proofs.YtaagjnlkinojcaaGreat
set_option linter.unusedSimpArgs false
set_option linter.unusedVariables false
open Go.Sx
set_option maxRecDepth 10000
theorem zm2 {hp : Nat → Blk} {j : Nat} {b : Blk} (h : hp j = b) : hp = fun k => if k = j then b else hp k := by
 funext k
 split
 · rename_i e; rw [e, h]
 · rfl
theorem z5z (l : List Int) (p : Nat) (hp : p ≤ l.length) (hl : l.length ≤ 16000000) (hw : WfB l) : Ct Tryz.prog 109 [.c (.ptr 0 0)] [z06 l p] (.tup [z1W (z09 l p).1.1, lv (.int .i64 (z09 l p).1.2), lv (.int .i64 (z09 l p).2.2)]) [z06 l (z09 l p).2.1] [] := by
 have hr := z75 l p hp hl hw
 generalize z09 l p = F at *
 obtain ⟨⟨⟨t1, t2, t3⟩, n⟩, q, e⟩ := F
 dsimp only at *
 refine z00 Tryz.func109 rfl rfl rfl rfl rfl (fun E hn hb => ?_)
 repeat (refine nst ?_)
 refine z0w rfl rfl rfl (by rw [hn]; rfl) rfl z2N ?_
 repeat (refine nst ?_)
 refine z0r [0] hr rfl rfl (by rw [hn]; rfl) rfl rfl (by trivial) ⟨rfl, rfl, (by simp [z0f]), rfl⟩ ?_
 repeat (refine nst ?_)
 refine z0w rfl rfl rfl (by rw [hn]; rfl) rfl z34 ?_
 refine z0h rfl rfl rfl rfl rfl (by exact vcs) rfl rfl rfl (by rw [z1A]; rfl) (by rw [z2g]; rfl) rfl rfl ?_
 repeat (refine nst ?_)
 refine zhz [2, 3, 4] (fun hp => hp 69 = .cells [z4y t1, z4y t2, .lf (.v (.bool t3)), z4y n]) (by kernel_rfl) (by kernel_rfl) (by rw [hn]; rfl) rfl ?_
 refine z6h rfl rfl rfl (z1w true rfl rfl (by first | trivial | (simp; done) | (simp; omega))) ?_
 refine z6h rfl rfl rfl (z1w true rfl rfl (by first | trivial | (simp; done) | (simp; omega))) ?_
 refine z7Q rfl rfl rfl (fun hp hK => z1w true rfl rfl (by first | trivial | (simp; done) | (simp; omega))) ?_
 refine z7Q rfl rfl rfl (fun hp hK => by rw [zm2 hK]; exact z1w true rfl rfl (by first | trivial | (simp; done) | (simp; omega))) ?_
 refine z7Q rfl rfl rfl (fun hp hK => z1w true rfl rfl (by first | trivial | (simp; done) | (simp; omega))) ?_
 rw [z0T]
 refine zbq rfl rfl rfl rfl (by first | trivial | (simp; done) | (simp; omega)) rfl rfl rfl (by rw [z0T]; rfl) (by rw [z1Q]; rfl) rfl rfl rfl ?_
 refine z6h rfl rfl rfl (z1w true rfl rfl (by first | trivial | (simp; done) | (simp; omega))) ?_
 refine z6h rfl rfl rfl (z1w true rfl rfl (by first | trivial | (simp; done) | (simp; omega))) ?_
 refine zeA ?_
 repeat (refine nst ?_)
 exact rt1 []
end Go.Proofs.YtaagjnlkinojcaaGreat

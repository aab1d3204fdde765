/-
  Regions whose order is open, walked in the order of their text over whole states. No condition.
-/
import Derived.Test.YtppmfjopokkhmaaSxV
namespace Go.Sx
open Go
set_option linter.unusedVariables false
set_option linter.unusedSimpArgs false

/-- τ is σ as far as operation o looks. -/
structure Like (ops : Array Oper) (o : Oper) (τ σ : St) : Prop where
  hp : τ.hp = σ.hp
  ox : ∀ x, x ∈ o.op.operands.toList → Sx.ox τ x = Sx.ox σ x
  gd : ∀ i b, o.guard = some (i, b) → ∀ d, (ops[i]?).bind (·.dst) = some d → τ.tm d = σ.tm d

def OpS (P : Program) (E : Env) (ops : Array Oper) (o : Oper) (σ : St) (x : Av) : Prop := ∀ τ, Like ops o τ σ → OpQ P E ops o τ x
def OpYS (P : Program) (E : Env) (ops : Array Oper) (o : Oper) (σ : St) (x : Av) : Prop := ∀ τ, Like ops o τ σ → OpY P E o τ x

section
variable {P : Program} {E : Env} {ops : Array Oper} {Q : Exit → Act → World → Prop} {o : Oper} {σ τ : St} {x : Av}

theorem guardC_like (h : Like ops o τ σ) {i : Nat} {b : Bool} (hg : o.guard = some (i, b)) : guardC ops τ i b = guardC ops σ i b := by
  unfold guardC
  cases hd : (ops[i]?).bind (·.dst) with
  | none => rfl
  | some d => simp only [h.gd i b hg d hd]
theorem ops_of (h : OpYS P E ops o σ x) (hg : o.guard = none) : OpS P E ops o σ x := fun τ hl => opq_of (h τ hl) hg
theorem ops_ofG {i : Nat} {b G : Bool} (hg : o.guard = some (i, b)) (hG : guardC ops σ i b = some G) (h : G = true → OpYS P E ops o σ x) : OpS P E ops o σ (.cnd G x) :=
  fun τ hl => opq_ofG hg (by rw [guardC_like hl hg, hG]) fun hg => h hg τ hl

theorem pureOp_like (nw : Bool) (h : Like ops o τ σ) : pureOp nw P τ o = pureOp nw P σ o := by
  have hx := h.ox
  have hhp := h.hp
  obtain ⟨tm1, hp1⟩ := τ
  obtain ⟨tm2, hp2⟩ := σ
  simp only at hhp
  subst hhp
  unfold pureOp
  cases ho : o.op with
  | move x => rw [ho] at hx; simp only [hx x (by simp [Op.operands])]
  | assign x => rw [ho] at hx; simp only [hx x (by simp [Op.operands])]
  | pick c a b => rw [ho] at hx; simp only [hx c (by simp [Op.operands]), hx a (by simp [Op.operands]), hx b (by simp [Op.operands])]
  | binOp op t x y u => rw [ho] at hx; simp only [hx x (by simp [Op.operands]), hx y (by simp [Op.operands])]
  | unOp op t x => rw [ho] at hx; simp only [hx x (by simp [Op.operands])]
  | convert s d x => rw [ho] at hx; simp only [hx x (by simp [Op.operands])]
  | load t x => rw [ho] at hx; simp only [hx x (by simp [Op.operands])]; rfl
  | nilCheck x => rw [ho] at hx; simp only [hx x (by simp [Op.operands])]
  | makeFunc f first cap =>
    rw [ho] at hx
    simp only
    rw [List.map_congr_left (fun x hx' => hx x (by simp [Op.operands] at *; exact .inl hx')), List.map_congr_left (fun x hx' => hx x (by simp [Op.operands] at *; exact .inr hx'))]
  | slice t x lo hi mx =>
    rw [ho] at hx
    have e : ∀ y : Option Operand, (∀ z, y = some z → z ∈ (Op.slice t x lo hi mx).operands.toList) → y.map (ox ⟨tm1, hp1⟩) = y.map (ox ⟨tm2, hp1⟩) := by
      intro y hy
      cases y with
      | none => rfl
      | some z => simp only [Option.map_some, hx z (hy z rfl)]
    simp only [hx x (by simp [Op.operands]), e lo (by rintro z rfl; simp [Op.operands]), e hi (by rintro z rfl; simp [Op.operands]), e mx (by rintro z rfl; simp [Op.operands])]
    rfl
  | fieldAddr s x f => rw [ho] at hx; simp only [hx x (by simp [Op.operands])]
  | field s x f => rw [ho] at hx; simp only [hx x (by simp [Op.operands])]
  | indexAddr t x i => rw [ho] at hx; simp only [hx x (by simp [Op.operands]), hx i (by simp [Op.operands])]; rfl
  | index t x i => rw [ho] at hx; simp only [hx x (by simp [Op.operands]), hx i (by simp [Op.operands])]
  | extract x i => rw [ho] at hx; simp only [hx x (by simp [Op.operands])]
  | build t parts =>
    rw [ho] at hx
    have e : (parts.toList.map fun (i, x) => (i, ox ⟨tm1, hp1⟩ x)) = (parts.toList.map fun (i, x) => (i, ox ⟨tm2, hp1⟩ x)) := List.map_congr_left (fun p hp' => by
      have := hx p.2 (by simp only [Op.operands]; exact List.mem_map.2 ⟨p, hp', rfl⟩)
      show (p.1, ox ⟨tm1, hp1⟩ p.2) = (p.1, ox ⟨tm2, hp1⟩ p.2)
      rw [this])
    simp only [e]
  | call c =>
    rw [ho] at hx
    have hx' : ∀ y, y ∈ c.args.toList → ox ⟨tm1, hp1⟩ y = ox ⟨tm2, hp1⟩ y := fun y hy => hx y (by simp only [Op.operands, Call.operands]; simp at hy ⊢; first | exact .inr hy | exact .inl hy | simp [hy])
    simp only
    generalize c.args.toList = l at hx' ⊢
    generalize c.argTypes.toList = ts
    clear hx ho h
    generalize c.callee = cc
    split <;> first | rfl | (simp_all; done)
  | _ => rfl

theorem opys_pure (nw : Bool) {d : Option Nat} {ps : List Prop} (h : norm o.dst (pureOp nw P σ o) = some (d, ps, x)) (hp : AllP ps) : OpYS P E ops o σ x :=
  fun τ hl => opy_pure nw (by rw [pureOp_like nw hl]; exact h) hp
theorem ops_pure (nw : Bool) {d : Option Nat} {ps : List Prop} (hg : o.guard = none) (h : norm o.dst (pureOp nw P σ o) = some (d, ps, x)) (hp : AllP ps) : OpS P E ops o σ x := ops_of (opys_pure nw h hp) hg
theorem ops_pureG (nw : Bool) {i : Nat} {b G : Bool} {d : Option Nat} {ps : List Prop} (hg : o.guard = some (i, b)) (hG : guardC ops σ i b = some G) (h : norm o.dst (pureOp nw P σ o) = some (d, ps, x)) (hp : G = true → AllP ps) : OpS P E ops o σ (.cnd G x) :=
  ops_ofG hg hG fun hg => opys_pure nw h (hp hg)

theorem oxs_like (h : ∀ x, x ∈ o.op.operands.toList → ox τ x = ox σ x) : ∀ l : List Operand, (∀ x, x ∈ l → x ∈ o.op.operands.toList) → oxs τ l = oxs σ l
  | [], _ => rfl
  | x :: l, hl => by simp only [oxs, h x (hl x (List.mem_cons_self ..)), oxs_like h l fun y hy => hl y (List.mem_cons_of_mem _ hy)]

theorem opys_call {c : Call} {fo : Operand} {f : FuncId} {first cap : List Cell} {pf : List Prop} {xs : List Av} {res r : Av} (hF : Ct P f xs [] res [] [])
    (hop : o.op = .call c) (hcv : c.callee = .value fo) (hfo : ox σ fo = (pf, .c (.fn (.func f) first cap)))
    (hp : AllP (pf ++ (oxs σ c.args.toList).1)) (hxs : first.map Av.c ++ (oxs σ c.args.toList).2 ++ cap.map Av.c = xs) (hok : (xs.all (Av.ok 0) && res.ok 0) = true) (hr : forceA res some = some r) : OpYS P E ops o σ r := by
  intro τ hl
  simp only [forceA_eq, Option.some.injEq] at hr
  subst hr
  have hx := hl.ox
  have e1 : ox τ fo = ox σ fo := hx fo (by rw [hop]; simp [Op.operands, Call.operands, hcv])
  have e2 : oxs τ c.args.toList = oxs σ c.args.toList := oxs_like hx _ fun y hy => by
    rw [hop]; simp only [Op.operands, Call.operands]; simp at hy ⊢; first | exact .inr hy | exact .inl hy | simp [hy]
  exact opy_call hF hop hcv (by rw [e1]; exact hfo) (by rw [e2]; exact hp) (by rw [e2]; exact hxs) hok

theorem opys_str {s d e : TypeId} {y : Operand} {ps : List Prop} {l : List Int} (hop : o.op = .convert s d y) (hs : P.underlying s = some (.slice e)) (he : P.underlying e = some (.int .u8)) (hd : P.underlying d = some .string)
    (hx : srcP σ (ox σ y) = some (ps, .ints .u8 l)) (hp : AllP ps) : OpYS P E ops o σ (lv (.string (strOfNums l))) := by
  intro τ hl
  have e1 : ox τ y = ox σ y := hl.ox y (by rw [hop]; simp [Op.operands])
  have e2 : ∀ z, srcP τ z = srcP σ z := by
    intro z
    have := hl.hp
    obtain ⟨tm1, hp1⟩ := τ
    obtain ⟨tm2, hp2⟩ := σ
    simp only at this
    subst this
    rfl
  exact opy_str hop hs he hd (by rw [e1, e2]; exact hx) hp
theorem opys_bytes {s d e : TypeId} {y : Operand} {ps : List Prop} {t : ByteArray} (hop : o.op = .convert s d y) (hs : P.underlying s = some .string) (hd : P.underlying d = some (.slice e)) (he : P.underlying e = some (.int .u8))
    (hx : ox σ y = (ps, lv (.string t))) (hp : AllP ps) (hsz : t.size ≤ maxLen) : OpYS P E ops o σ (.c (.lf (.ints .u8 (bs t)))) := by
  intro τ hl
  have e1 : ox τ y = ox σ y := hl.ox y (by rw [hop]; simp [Op.operands])
  exact opy_bytes hop hs hd he (by rw [e1]; exact hx) hp hsz

/-- The walk. -/
def DrawW (P : Program) (E : Env) (ops : Array Oper) : List Oper → St → (St → Prop) → Prop
  | [], σ, K => K σ
  | o :: l, σ, K => ∃ d x, d = o.dst ∧ OpS P E ops o σ x ∧ DrawW P E ops l (σ.put d x) K
theorem DrawW_nil {K : St → Prop} (h : K σ) : DrawW P E ops [] σ K := h
theorem DrawW_cons {l : List Oper} {K : St → Prop} {d : Option Nat} (hd : forceO o.dst some = some d) (h : OpS P E ops o σ x) (hk : DrawW P E ops l (σ.put d x) K) : DrawW P E ops (o :: l) σ K := by
  simp only [forceO_eq, Option.some.injEq] at hd
  exact ⟨d, x, hd.symm, h, hk⟩

def pre (σ : St) : List Oper → List Av → St
  | o :: l, x :: xs => pre (σ.put o.dst x) l xs
  | _, _ => σ

theorem drawW_out : ∀ (l : List Oper) (σ : St) (K : St → Prop), DrawW P E ops l σ K → ∃ xs : List Av, xs.length = l.length ∧ (∀ i o x, l[i]? = some o → xs[i]? = some x → OpS P E ops o (pre σ (l.take i) (xs.take i)) x) ∧ K (pre σ l xs)
  | [], σ, K, h => ⟨[], rfl, fun i o x h => by simp at h, h⟩
  | o :: l, σ, K, ⟨d, x, hd, h1, h2⟩ => by
    subst hd
    obtain ⟨xs, k1, k2, k3⟩ := drawW_out l _ K h2
    refine ⟨x :: xs, by simp [k1], fun i o' x' ho hx => ?_, k3⟩
    match i, ho, hx with
    | 0, ho, hx => simp at ho hx; subst ho; subst hx; exact h1
    | i + 1, ho, hx => simpa [pre] using k2 i o' x' (by simpa using ho) (by simpa using hx)

/-- The slots of a list of operations are different. -/
def freshB : List Oper → Bool
  | [] => true
  | o :: l => (match o.dst with | some d => (match fnd l d 0 with | some _ => false | none => true) | none => true) && freshB l
theorem fnd_shift : ∀ (l : List Oper) (s k : Nat), fnd l s k = (fnd l s 0).map (· + k)
  | [], s, k => rfl
  | o :: l, s, k => by
    simp only [fnd]
    cases o.dst with
    | none => simp only; rw [fnd_shift l s (k + 1), fnd_shift l s (0 + 1)]; cases fnd l s 0 <;> simp; omega
    | some d =>
      cases hb : Nat.beq d s with
      | true => simp only [hb, Option.map_some, Nat.zero_add]
      | false => simp only [hb]; rw [fnd_shift l s (k + 1), fnd_shift l s (0 + 1)]; cases fnd l s 0 <;> simp; omega

theorem pre_hp : ∀ (l : List Oper) (xs : List Av) (σ : St), (pre σ l xs).hp = σ.hp
  | [], xs, σ => rfl
  | o :: l, [], σ => rfl
  | o :: l, x :: xs, σ => by
    simp only [pre]
    rw [pre_hp l xs]
    cases o.dst <;> rfl
theorem pre_tm : ∀ (l : List Oper) (xs : List Av) (σ : St) (s : Nat), freshB l = true → xs.length = l.length → (pre σ l xs).tm s = match fnd l s 0 with | some i => xs.getD i (.c .un) | none => σ.tm s
  | [], xs, σ, s, _, _ => rfl
  | o :: l, [], σ, s, _, hl => by simp at hl
  | o :: l, x :: xs, σ, s, hf, hl => by
    simp only [freshB, Bool.and_eq_true] at hf
    simp only [List.length_cons, Nat.add_right_cancel_iff] at hl
    have ih := pre_tm l xs (σ.put o.dst x) s hf.2 hl
    simp only [pre]
    rw [ih]
    simp only [fnd]
    rw [fnd_shift l s (0 + 1)]
    cases hd : o.dst with
    | none =>
      simp only
      cases fnd l s 0 <;> simp [St.put]
    | some d =>
      rw [hd] at hf
      cases hb : Nat.beq d s with
      | true =>
        have : d = s := Nat.eq_of_beq_eq_true hb
        subst this
        have hn : fnd l d 0 = none := by
          have := hf.1
          dsimp only at this
          cases h : fnd l d 0 with
          | none => rfl
          | some i => rw [h] at this; cases this
        rw [hn]
        simp [St.put, St.set]
      | false =>
        have hne : ¬ s = d := by rintro rfl; rw [Nat.beq_refl] at hb; cases hb
        simp only [hb]
        cases fnd l s 0 <;> simp [St.put, St.set, hne]

/-- What an operation looks at, of the slots of the region's head, is of what it waits for. -/
def looksB (ops : Array Oper) (l : List Oper) (o : Oper) : Bool :=
  let seen := fun t => match fnd l t 0 with | some j => memB j (depsOf o) | none => true
  (o.op.operands.toList.all fun | .tmp t => seen t | _ => true) &&
  (match o.guard with
   | some (i, _) => (match (ops[i]?).bind (·.dst) with | some d => seen d | none => true)
   | none => true)
def drawC (ops : Array Oper) (l : List Oper) (n : Nat) : Bool :=
  freshB l && l.all (looksB ops l) && l.zipIdx.all (fun p => (depsOf p.1).all fun j => Nat.blt j p.2)

theorem W_drawW {id : Nat} {l : List Oper} (n : Nat) (hm : P.follows .mixedOrders = true) (hB : drawB l.toArray (l.take n) n = true) (hC : drawC l.toArray (l.take n) n = true) (hE : (l.take n).all (fun o => dstOk E.n o.dst) = true) {lh lt : List Oper} (hlh : l.take n = lh) (hlt : l.drop n = lt)
    (h : DrawW P E l.toArray lh σ (fun τ => WL P E l.toArray Q lt τ)) : W P E (.region id l.toArray true) Q σ := by
  subst hlh
  subst hlt
  obtain ⟨xs, h1, h2, h3⟩ := drawW_out _ _ _ h
  simp only [drawC, Bool.and_eq_true, List.all_eq_true] at hC
  obtain ⟨⟨c1, c2⟩, c3⟩ := hC
  refine W_draw n hm hB hE ⟨xs, h1, fun i o ho => ?_, fun a w hS => h3 a w ?_⟩
  · have hlt : i < (l.take n).length := (List.getElem?_eq_some_iff.1 ho).1
    have hx : xs[i]? = some xs[i] := by simp [h1]
    have hxi : (([] : List Av) ++ xs).getD (0 + i) (.c .un) = xs[i] := by simp [List.getD_eq_getElem?_getD, hx]
    rw [hxi]
    refine h2 i o _ ho hx _ ⟨?_, ?_, ?_⟩
    · rw [pre_hp]; rfl
    all_goals
      have hlk := c2 o (List.mem_of_getElem? ho)
      simp only [looksB, Bool.and_eq_true, List.all_eq_true] at hlk
      have hdep : ∀ j, memB j (depsOf o) = true → j < i := by
        intro j hj
        have hmem : ∀ (x : Nat) (l : List Nat), memB x l = true → x ∈ l := by
          intro x l
          induction l with
          | nil => intro h; cases h
          | cons y l ih =>
            intro h
            simp only [memB] at h
            split at h
            · rename_i e; rw [Nat.eq_of_beq_eq_true e]; exact List.mem_cons_self ..
            · exact List.mem_cons_of_mem _ (ih h)
        have := c3 (o, i) (by rw [List.mem_zipIdx_iff_getElem?]; exact ho)
        exact blt_lt (this j (hmem _ _ hj))
      have hfr : ∀ (l : List Oper) (m : Nat), freshB l = true → freshB (l.take m) = true := by
        intro l
        induction l with
        | nil => intro m _; simp [freshB]
        | cons o l ih =>
          intro m hm
          cases m with
          | zero => rfl
          | succ m =>
            simp only [List.take_succ_cons, freshB, Bool.and_eq_true] at hm ⊢
            refine ⟨?_, ih m hm.2⟩
            cases hd : o.dst with
            | none => rfl
            | some d =>
              rw [hd] at hm
              have := hm.1
              dsimp only at this ⊢
              have hnn : fnd l d 0 = none := by
                cases h : fnd l d 0 with
                | none => rfl
                | some i => rw [h] at this; cases this
              have : fnd (l.take m) d 0 = none := by
                have key : ∀ (l : List Oper) (m k : Nat), fnd l d k = none → fnd (l.take m) d k = none := by
                  intro l
                  induction l with
                  | nil => intro m k _; simp [fnd]
                  | cons o l ih =>
                    intro m k h
                    cases m with
                    | zero => rfl
                    | succ m =>
                      simp only [List.take_succ_cons, fnd] at h ⊢
                      cases ho : o.dst with
                      | none => rw [ho] at h; exact ih m _ h
                      | some e =>
                        rw [ho] at h
                        dsimp only at h ⊢
                        cases hb : Nat.beq e d with
                        | true => rw [hb] at h; cases h
                        | false => rw [hb] at h; exact ih m _ h
                exact key l m 0 hnn
              rw [this]
      have hfnd : ∀ (l : List Oper) (m t j : Nat), fnd l t 0 = some j → j < m → fnd (l.take m) t 0 = some j := by
        intro l
        induction l with
        | nil => intro m t j h; cases h
        | cons o l ih =>
          intro m t j h hj
          cases m with
          | zero => omega
          | succ m =>
            simp only [List.take_succ_cons, fnd] at h ⊢
            have nx : fnd l t (0 + 1) = some j → fnd (l.take m) t (0 + 1) = some j := by
              intro h
              rw [fnd_shift] at h ⊢
              obtain ⟨j', h1, h2⟩ := Option.map_eq_some_iff.1 h
              rw [ih m t j' h1 (by omega)]
              simpa using h2
            cases ho : o.dst with
            | none => rw [ho] at h; exact nx h
            | some e =>
              rw [ho] at h
              dsimp only at h ⊢
              cases hb : Nat.beq e t with
              | true => rw [hb] at h; exact h
              | false => rw [hb] at h; exact nx h
      have hfnn : ∀ (l : List Oper) (m t k : Nat), fnd l t k = none → fnd (l.take m) t k = none := by
        intro l
        induction l with
        | nil => intro m t k _; simp [fnd]
        | cons o l ih =>
          intro m t k h
          cases m with
          | zero => rfl
          | succ m =>
            simp only [List.take_succ_cons, fnd] at h ⊢
            cases ho : o.dst with
            | none => rw [ho] at h; exact ih m _ _ h
            | some e =>
              rw [ho] at h
              dsimp only at h ⊢
              cases hb : Nat.beq e t with
              | true => rw [hb] at h; cases h
              | false => rw [hb] at h; exact ih m _ _ h
      have hpt : ∀ t, (match fnd (l.take n) t 0 with | some j => memB j (depsOf o) | none => true) = true →
          (stD σ (l.take n) (fun j => (([] : List Av) ++ xs).getD j (.c .un)) (fun j => memB j (depsOf o))).tm t = (pre σ ((l.take n).take i) (xs.take i)).tm t := by
        intro t ht
        rw [pre_tm _ _ _ _ (hfr _ i c1) (by simp only [List.length_take, h1])]
        simp only [stD]
        cases hf : fnd (l.take n) t 0 with
        | none => rw [hfnn _ i _ _ hf]
        | some j =>
          rw [hf] at ht
          dsimp only at ht ⊢
          rw [hfnd _ i _ _ hf (hdep j ht), ht]
          have hji := hdep j ht
          simp [List.getD_eq_getElem?_getD, List.getElem?_take, hji]
    · intro x hx'
      cases x with
      | tmp t =>
        have := hlk.1 (.tmp t) hx'
        show str _ = str _
        simp only [ev]
        rw [hpt t this]
      | const v => rfl
      | global g => rfl
      | func f => rfl
    · intro i' b hg d hd
      have := hlk.2
      rw [hg] at this
      dsimp only at this
      rw [hd] at this
      exact hpt d this
  · obtain ⟨β, F, hS⟩ := hS
    refine ⟨β, F, hS.weaken (fun s => .inl ?_) (by rw [pre_hp]; rfl)⟩
    rw [pre_tm _ _ _ _ c1 h1]
    simp only [stD]
    cases fnd (l.take n) s 0 <;> simp
end
end Go.Sx

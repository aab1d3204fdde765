/-
  The layer's latter part: operations under a condition that holds. No condition.
-/
import Derived.Test.YtppmfjopokkhmaaSxP
import Derived.Lib.AppendZerosOnto
namespace Go.Sx
open Go
set_option linter.unusedVariables false
set_option linter.unusedSimpArgs false

section
variable {P : Program} {E : Env} {ops : Array Oper} {Q : Exit → Act → World → Prop} {rest : List Oper} {o : Oper} {σ : St} {x : Av}

/-- An operation whose condition holds. -/
theorem WL_gT {i : Nat} {b : Bool} (hg : o.guard = some (i, b)) (hG : guardC ops σ i b = some true) (hk : WL P E ops Q ({ o with guard := none } :: rest) σ) : WL P E ops Q (o :: rest) σ := by
  intro a w hS
  have h := hk a w hS
  obtain ⟨β, F, hS'⟩ := hS
  have hw : Region.wanted o (yielded ops a.tmps) = true := guardB_wanted (o := o) (guardC_eq hG) hg hS'
  have hw' : Region.wanted { o with guard := none } (yielded ops a.tmps) = true := by simp [Region.wanted]
  unfold wpList at h ⊢
  rw [hw]
  rw [hw'] at h
  exact h
theorem zeroCells_one (k : IntKind) (n : Nat) : (Builtin.zeroCells (Value.int k 0).cells n).toList = List.replicate n (Value.int k 0) := by
  apply List.ext_getElem?
  intro i
  simp only [Builtin.zeroCells, Value.cells, Array.toList_map, List.getElem?_map, Array.toList_range, List.size_toArray, List.length_cons, List.length_nil, Nat.zero_add, Nat.mul_one, List.getElem?_replicate, List.getElem?_range]
  split
  · rename_i h
    simp [h, Nat.mod_one]
  · rename_i h
    simp [h]
/-- 'append(s, make([]T, n)...)', s a row of the call's own. -/
theorem s_appendZ {t tn e : TypeId} {by_ : Nat} {c : Call} {x y : Operand} {px py : List Prop} {j : Nat} {k kn kv : IntKind} {l : List Int} {n : Nat} {dd : Option Nat} (hop : o.op = .call c) (hc : c.callee = .builtin .append) (ha : c.args.toList = [x, y]) (hty : c.argTypes.toList = [t, tn]) (hg : o.guard = none)
    (hdf : forceO o.dst some = some dd) (hd : dstOk E.n dd = true)
    (hE : Elt P t e 1 by_) (hz0 : (P.info? e).bind (·.zero) = some (.int k 0)) (htn : P.underlying tn = some (.int kn)) (hx : ox σ x = (px, .c (.own j 1 0 l.length))) (hb : σ.hp j = .row (.ints k l)) (hj64 : Nat.ble 64 j = true) (hy : ox σ y = (py, lv (.int kv (n : Int)))) (hp : AllP (px ++ py))
    (hlim : l.length + n ≤ 4294967296 ∧ by_ ≤ 4096)
    (hk : WL P E ops Q rest (((σ.kill j).seth j (.row (.ints k (l ++ List.replicate n 0)))).put dd (.c (.own j 1 0 (l ++ List.replicate n (0 : Int)).length)))) : WL P E ops Q (o :: rest) σ := by
  simp only [forceO_eq, Option.some.injEq] at hdf
  subst hdf
  intro a w hS
  obtain ⟨β, F, hS⟩ := hS
  have hv1 := oxR hS x
  rw [hx] at hv1
  have hv1 := hv1 hp.left
  have hv2 := oxR hS y
  rw [hy] at hv2
  have hv2 := (hv2 hp.right).val
  have hca : c.args = #[x, y] := by apply Array.toList_inj.1; simpa using ha
  have hct : c.argTypes = #[t, tn] := by apply Array.toList_inj.1; simpa using hty
  generalize he1 : a.eval x = v1 at hv1
  dsimp only at hv1
  cases hv1 with | c hv1 => cases hv1 with | own _ _ _ _ ao cap hlc hmx hh =>
  obtain ⟨hl1, hl2⟩ := hlim
  obtain ⟨ht, i, z, hi, hz, hsz, hby, hzs⟩ := hE
  have : z = .int k 0 := by simpa [hi, hz] using hz0
  subst this
  have hjn : E.nb ≤ j := by have := hS.nbl; have : 64 ≤ j := by simpa using hj64
                            omega
  have hgone : σ.hp j ≠ .gone := by rw [hb]; intro h; cases h
  have hB := hS.hp j
  rw [hb] at hB
  have hll : (l ++ List.replicate n (0 : Int)).length = l.length + n := by simp
  have hw : IntKind.i64.wrap (n : Int) = n := by rw [wrap_i64]; omega
  have hneg : ¬ ((n : Int) < 0) := by omega
  have hw00 : IntKind.i64.wrap 0 = 0 := by decide
  have h48i : ¬ (281474976710656 < (n : Int) * (i.bytes : Int)) := by
    have : n * i.bytes ≤ 4294967296 * 4096 := Nat.mul_le_mul (by omega) (by omega)
    rw [← Int.natCast_mul]
    omega
  have hcell : ∀ g cur, β j = some g → Row w g cur → ∀ (i : Nat) (x : Int), l[i]? = some x → cur[i]? = some (Value.int k x) := by
    intro g cur hg' hrow i x hi
    rcases hB with ⟨h0, _⟩ | ⟨g2, cur2, h1, h2, h3⟩
    · subst h0; simp at hi
    · rw [hg'] at h1
      obtain rfl := Option.some.inj h1
      have : cur2 = cur := by
        obtain ⟨t1, f1, k1, _⟩ := hrow
        obtain ⟨t2, f2, k2, _⟩ := h2
        rw [k1] at k2
        simp only [Option.some.injEq, Obj.cells.injEq] at k2
        exact k2.1.symm
      subst this
      exact h3 _ _ hi
  refine wpList_plain hg fun KK hKK => ?_
  unfold Oper.wp
  by_cases hroom : l.length + n ≤ cap
  · rcases hh with rfl | ⟨g, hgj, rfl, hcap⟩
    · have hl0 : l = [] := List.eq_nil_of_length_eq_zero (by omega)
      have hn0 : n = 0 := by omega
      subst hl0; subst hn0
      have hrun : (Builtin.append_ #[t, tn] o.type #[.slice ao 0 0, .int kv 0]).run P w = .ok (.slice ao 0 0) w := by
        cases ao with
        | none => simp [Builtin.append_, run_underlying ht, run_underlying htn, sizeOf, typeInfo, hi, hsz, asInt, asIntOf, hw00]
        | some b => simp [Builtin.append_, run_underlying ht, run_underlying htn, sizeOf, typeInfo, hi, hsz, asInt, asIntOf, hw00, storeCells]
      rw [run_append_call hop hc hca hct (by rw [he1, hv2]; exact hrun)]
      refine hKK _ _ (hk _ _ ⟨β, F, SRb.put ?_ (.c (.own _ _ _ _ _ _ (by simp) (by decide) (.inl rfl))) (dstOk_lt hd)⟩)
      exact hS.forget j hb rfl
    · obtain ⟨cur, hrow, hcap⟩ := hcap
      have hcur := hcell g cur hgj hrow
      obtain ⟨_, _, hnF⟩ := hS.own j g hgone hgj
      have hle : l.length + (List.replicate n (Value.int k 0)).length ≤ cur.size := by simp; omega
      obtain ⟨w', r1, r2⟩ := run_storeCells' (P := P) (g := g) (off := l.length) (List.replicate n (Value.int k 0)) 0 w cur (fun u hu => by rw [(List.mem_replicate.1 hu).2]; rfl) hrow (by simp; omega)
      simp only [Nat.add_zero] at r2
      have hls := size_lay hle
      have hrun : (Builtin.append_ #[t, tn] o.type #[.slice (some ⟨g, 0, none⟩) l.length cap, .int kv (n : Int)]).run P w = .ok (.slice (some ⟨g, 0, none⟩) (l.length + n) cap) w' := by
        rcases Nat.eq_zero_or_pos n with h0 | h0
        · subst h0
          simp [Builtin.append_, run_underlying ht, run_underlying htn, sizeOf, typeInfo, hi, hsz, asInt, asIntOf, hw00, hlc, add_none] at r1 ⊢
          simpa [storeCells] using r1
        · have hns : ¬ (n = 0) := by omega
          simp [Builtin.append_, run_underlying ht, run_underlying htn, sizeOf, typeInfo, zeroValue, hi, hz, hsz, asInt, asIntOf, hw, hneg, h48i, hroom, hns, add_none, zeroCells_one, r1]
      rw [run_append_call hop hc hca hct (by rw [he1, hv2]; exact hrun)]
      have hS2 := (hS.written hgone hgj hrow r2 hls (blk := .row (.ints k (l ++ List.replicate n 0))) (.inr ⟨g, _, hgj, r2.row, fun i v hv => by
        rw [get_lay hle]
        rw [List.getElem?_append] at hv
        by_cases h1 : i < l.length
        · rw [if_pos h1] at hv ⊢
          exact hcur i v hv
        · rw [if_neg h1] at hv ⊢
          have hlt2 := (List.getElem?_eq_some_iff.1 hv).1
          rw [List.getElem?_replicate] at hv
          simp only [List.length_replicate] at hlt2
          rw [if_pos hlt2] at hv
          rw [if_pos (by simp; omega), List.getElem?_replicate, if_pos hlt2, ← Option.some.inj hv]⟩)).1
      have hS3 := hS2.forget j (blk := .row (.ints k (l ++ List.replicate n 0))) (by simp [St.seth]) rfl
      have e3 : ((σ.seth j (.row (.ints k (l ++ List.replicate n 0)))).kill j).seth j (.row (.ints k (l ++ List.replicate n 0))) = (σ.kill j).seth j (.row (.ints k (l ++ List.replicate n 0))) := by
        simp only [St.seth, St.kill, St.mk.injEq]
        refine ⟨trivial, funext fun i => ?_⟩
        by_cases e' : i = j <;> simp [e']
      rw [e3] at hS3
      refine hKK _ _ (hk _ _ ⟨β, F, hS3.put (.c ?_) (dstOk_lt hd)⟩)
      rw [hll]
      exact .own _ _ _ _ _ _ hroom hmx (.inr ⟨g, hgj, rfl, _, r2.row, by rw [hls]; omega⟩)
  · have h0 : 0 < n := by omega
    have hdr := hS.drawn (w.drawn + 1)
    have hold : (Builtin.firstCells i.size l.length (.slice ao l.length cap)).run P w.drew = .ok (l.map (Value.int k)).toArray w.drew := by
      rw [hsz]
      cases ao with
      | none =>
        have hc0 : cap = 0 := by
          rcases hh with h | ⟨g, _, h, _⟩
          · exact h
          · cases h
        have hl0 : l = [] := List.eq_nil_of_length_eq_zero (by omega)
        subst hl0
        simp [Builtin.firstCells]
      | some b =>
        by_cases hl0 : l = []
        · subst hl0
          simp [Builtin.firstCells, loadCells, loadCellsFrom]
        · rcases hh with h | ⟨g, hgj, h, cur, hrow, hcap⟩
          · exact absurd (List.eq_nil_of_length_eq_zero (by omega)) hl0
          · obtain rfl := Option.some.inj h
            have hc2 := hcell g cur hgj hrow
            simp only [Builtin.firstCells]
            refine loadCells_row (P := P) (w := w.drew) (b := g) (o := 0) (cs := l.map (Value.int k)) (fun i v hv => ?_) (by simp)
            rw [List.getElem?_map, Option.map_eq_some_iff] at hv
            obtain ⟨u, hu, rfl⟩ := hv
            have : w.drew.cell? ⟨g, 0 + i, none⟩ = w.cell? ⟨g, 0 + i, none⟩ := rfl
            rw [this, Nat.zero_add, hrow.cell]
            exact hc2 _ _ hu
    have hb1 : (l.length + n) * by_ ≤ 140737488355328 := by
      have : (l.length + n) * by_ ≤ 4294967296 * 4096 := Nat.mul_le_mul (by omega) hl2
      omega
    have hrun := Lib.run_append_grow_zeros (P := P) w t tn o.type e i (.int k 0) kv kn ht htn hi hz ao l.length cap (l.map (Value.int k)) hold n h0 (by omega) (by omega) (by omega) (by rw [hby]; have : n * by_ ≤ 4294967296 * 4096 := Nat.mul_le_mul (by omega) hl2; omega) (by rw [hby]; exact growslice_fits (by omega) hb1)
    rw [run_append_call hop hc hca hct (by rw [he1, hv2]; exact hrun)]
    have hk2 := hdr.kill j hjn
    have hcap2 : l.length + n ≤ grownCap w (l.length + n) cap e := grownCap_ge w (l.length + n) cap e
    have hcm : grownCap w (l.length + n) cap e ≤ maxLen := grownCap_le_maxLen w (l.length + n) cap e (by simp only [maxLen]; omega)
    have hsize : ((l.map (Value.int k)).toArray ++ Builtin.zeroCells (Value.int k 0).cells n ++ Builtin.zeroCells (Value.int k 0).cells (grownCap w (l.length + n) cap e - (l.length + n))).size = grownCap w (l.length + n) cap e := by
      simp only [Array.size_append, List.size_toArray, List.length_map, size_zeroCells]
      have : (Value.int k 0).cells.size = 1 := rfl
      rw [this]
      omega
    obtain ⟨β2, hS2, h4⟩ := newRow' (t := e) (j := j) (d := .ints k (l ++ List.replicate n 0)) (vs := (l ++ List.replicate n 0).map (Value.int k)) hk2 (by simp) hjn (by simp [St.kill]) (by simp [RC])
      (cur := (l.map (Value.int k)).toArray ++ Builtin.zeroCells (Value.int k 0).cells n ++ Builtin.zeroCells (Value.int k 0).cells (grownCap w (l.length + n) cap e - (l.length + n))) (fun i v hv => by
        have e1 : (l ++ List.replicate n 0).map (Value.int k) = l.map (Value.int k) ++ (Builtin.zeroCells (Value.int k 0).cells n).toList := by rw [zeroCells_one]; simp
        rw [e1] at hv
        have hlt := (List.getElem?_eq_some_iff.1 hv).1
        rw [← Array.getElem?_toList, Array.toList_append, Array.toList_append, List.getElem?_append_left (by simpa using hlt)]
        exact hv)
    refine hKK _ _ (hk _ _ ⟨β2, F, hS2.put (.c ?_) (dstOk_lt hd)⟩)
    rw [hll]
    exact .own _ _ _ _ _ _ hcap2 hcm (.inr ⟨_, h4, rfl, _, row_alloc _ _, by rw [hsize]; omega⟩)

/-! The same in drawn regions. -/
theorem LendL_hp {τ : St} (h : τ.hp = σ.hp) : ∀ {ys xs : List Av}, LendL σ ys xs → LendL τ ys xs
  | [], [], _ => trivial
  | y :: ys, x :: xs, hl => by
    refine ⟨?_, LendL_hp h hl.2⟩
    have := hl.1
    unfold Lend at this ⊢
    rw [h]
    exact this
  | [], _ :: _, hl => hl.elim
  | _ :: _, [], hl => hl.elim
theorem opys_callL {c : Call} {fo : Operand} {f : FuncId} {first cap : List Cell} {pf : List Prop} {xs : List Av} {res : Av} (hF : Ct P f xs [] res [] [])
    (hop : o.op = .call c) (hcv : c.callee = .value fo) (hfo : ox σ fo = (pf, .c (.fn (.func f) first cap)))
    (hp : AllP (pf ++ (oxs σ c.args.toList).1)) (hxs : LendL σ (first.map Av.c ++ (oxs σ c.args.toList).2 ++ cap.map Av.c) xs) (hok : (xs.all (Av.ok 0) && plainA res) = true) : OpYS P E ops o σ res := by
  intro τ hl
  have hx := hl.ox
  have e1 : ox τ fo = ox σ fo := hx fo (by rw [hop]; simp [Op.operands, Call.operands, hcv])
  have e2 : oxs τ c.args.toList = oxs σ c.args.toList := oxs_like hx _ fun y hy => by
    rw [hop]; simp only [Op.operands, Call.operands]; simp at hy ⊢; first | exact .inr hy | exact .inl hy | simp [hy]
  exact opy_callL hF hop hcv (by rw [e1]; exact hfo) (by rw [e2]; exact hp) (by rw [e2]; exact LendL_hp hl.hp hxs) hok
theorem opys_lit {t e : TypeId} {sz by_ n : Nat} {parts : Array (Nat × Operand)} {ps : List Prop} {out : List Cell} {d : Leaf} (hop : o.op = .buildSlice t n parts) (hE : Elt P t e sz by_) (hz : zeroOk P e)
    (hf : fillA (fun i => some (i * sz, sz)) (List.replicate (n * sz) .un) (parts.toList.map fun (i, x) => (i, ox σ x)) = some (ps, out)) (hp : AllP ps) (hdd : dataOf P e sz n out = some d) (hn : n * sz ≤ 16777216 ∧ n ≤ 16777216 ∧ lenD d = n ∧ szD d = sz) :
    OpYS P E ops o σ (.c (.lf d)) := by
  intro τ hl
  have e1 : (parts.toList.map fun (i, x) => (i, ox τ x)) = parts.toList.map fun (i, x) => (i, ox σ x) := List.map_congr_left fun p hp => by
    obtain ⟨i, x⟩ := p
    have : ox τ x = ox σ x := hl.ox x (by
      rw [hop]
      simp only [Op.operands]
      simp
      exact ⟨i, by simpa using hp⟩)
    simp only [this]
  exact opy_lit hop hE hz (by rw [e1]; exact hf) hp hdd hn
theorem opys_eqA {t t' e : TypeId} {n : Nat} {k k' : IntKind} {neg : Bool} {y z : Operand} {p q : List Prop} {l m : List Int} (hop : o.op = .binOp (if neg then .neq else .eql) t y z t') (ht : P.underlying t = some (.array n e)) (he : P.underlying e = some (.int k')) (hc : P.cellsOf e = 1)
    (hy : ox σ y = (p, .ai k l)) (hz : ox σ z = (q, .ai k m)) (hp : AllP (p ++ q)) (hg : P.eqGuardType P.depth t = false) (hl : l.length = n) (hm : m.length = n) : OpYS P E ops o σ (lv (.bool ((l == m) != neg))) := by
  intro τ hlk
  have e1 : ox τ y = ox σ y := hlk.ox y (by rw [hop]; simp [Op.operands])
  have e2 : ox τ z = ox σ z := hlk.ox z (by rw [hop]; simp [Op.operands])
  exact opy_eqA hop ht he hc (by rw [e1]; exact hy) (by rw [e2]; exact hz) hp hg hl hm
/-! Regions of open order in which slots are written that were looked at before. -/
/-- The state in which just the operations of which 'done' says so have come up; the other slots hold what they held. -/
def stP (σ : St) (l : List Oper) (T : Nat → Av) (done : Nat → Bool) : St :=
  ⟨fun s => match fnd l s 0 with | some i => (match done i with | true => T i | false => σ.tm s) | none => σ.tm s, σ.hp⟩
/-- What an operation looks at is of what it waits for, or is written by one that waits for it. -/
def looksP (ops : Array Oper) (l : List Oper) (i : Nat) (o : Oper) : Bool :=
  (o.op.operands.toList.all fun | .tmp t => (match fnd l t 0 with | some j => memB j (depsOf o) || (wts ops 4 j i && Nat.blt i j) | none => true) | _ => true) &&
  (match o.guard with
   | some (g, _) => (match (ops[g]?).bind (·.dst) with | some d => (match fnd l d 0 with | some j => memB j (depsOf o) | none => true) | none => true)
   | none => true)
def drawP (ops : Array Oper) (l : List Oper) : Bool :=
  freshB l &&
  (List.range ops.size).all fun i => match ops[i]? with
    | some o => o.after.toList.all (fun e => !Region.binds .any e || Nat.blt e.on i) && (match o.dst with | some d => (match fnd l d 0 with | some j => Nat.beq j i | none => false) | none => true) && looksP ops l i o
    | none => false

theorem draw_anyP {l : List Oper} {T : Nat → Av} (hl : ∀ s i, fnd l s 0 = some i → i < ops.size ∧ (ops[i]?).bind (·.dst) = some s) (hB : drawP ops l = true)
    (hE : ∀ (d : Nat) (o : Oper) (i : Nat), ops[i]? = some o → o.dst = some d → d < E.n)
    (hq : ∀ (i : Nat) (o : Oper), ops[i]? = some o → ∀ done : Nat → Bool, (∀ j, memB j (depsOf o) = true → done j = true) → (∀ j, wts ops 4 j i = true → done j = false) → OpQ P E ops o (stP σ l T done) (T i))
    (hk : ∀ a w, SR E (stP σ l T (fun _ => true)) a w → Q .normal a w) :
    ∀ (m : Nat) (listed : Array Bool) (a : Act) (w : World), cnt (fun j => !listed.getD j true) ops.size = m → HeadInv .any ops ops.size listed →
      (∃ β F, SRb E β F (stP σ l T (fun j => listed.getD j false)) a w) → wpAny P .any ops Q m listed a w := by
  simp only [drawP, Bool.and_eq_true, List.all_eq_true, List.mem_range] at hB
  obtain ⟨hf, hB⟩ := hB
  intro m
  induction m with
  | zero =>
    intro listed a w hcn hI ⟨β, F, hS⟩
    have hall := cnt_zero ops.size hcn
    refine ⟨?_, hk a w ⟨β, F, ?_⟩⟩
    · cases hr : Region.ready .any ops listed with
      | nil => rfl
      | cons i r =>
        have hi : i ∈ Region.ready .any ops listed := by rw [hr]; exact List.mem_cons_self ..
        obtain ⟨h1, o, ho, _⟩ := mem_ready.1 hi
        have hlt := (Array.getElem?_eq_some_iff.1 ho).1
        have := hall i hlt
        rw [h1] at this; cases this
    · refine hS.weaken (fun s => .inl ?_) rfl
      simp only [stP]
      split
      · rename_i i hi
        have hlt := (hl s i hi).1
        have h1 := hall i hlt
        have hs' : i < listed.size := by rw [hI.size]; omega
        simp [hs'] at h1
        simp [hs', h1]
      · rfl
  | succ m ih =>
    intro listed a w hcn hI ⟨β, F, hS⟩
    obtain ⟨i0, h1, h2, h3⟩ := cnt_least ops.size (by omega : cnt (fun j => !listed.getD j true) ops.size ≠ 0)
    have h2' : listed.getD i0 true = false := by simpa using h2
    have hr0 : i0 ∈ Region.ready .any ops listed := by
      refine mem_ready.2 ⟨h2', ?_⟩
      have := hB i0 h1
      split at this
      · rename_i o ho
        simp only [Bool.and_eq_true, List.all_eq_true] at this
        refine ⟨o, ho, fun e he hbn => ?_⟩
        have h4 : e.on < i0 := blt_lt (by simpa [hbn] using this.1.1 e (by simpa using he))
        have h5 := h3 e.on h4
        have hs' : e.on < listed.size := by rw [hI.size]; omega
        simp [hs'] at h5
        simp [hs', h5]
      · cases this
    refine ⟨fun h => (by rw [h] at hr0; cases hr0), fun i hi => ?_⟩
    obtain ⟨hun, o, ho, hdeps⟩ := mem_ready.1 hi
    have hin : i < ops.size := (Array.getElem?_eq_some_iff.1 ho).1
    have hs' : i < listed.size := by rw [hI.size]; omega
    have hunf : listed.getD i false = false := by simp [hs'] at hun ⊢; exact hun
    have hBi := hB i hin
    rw [ho] at hBi
    simp only [Bool.and_eq_true] at hBi
    obtain ⟨⟨_, hBd⟩, _⟩ := hBi
    have hcnt : cnt (fun j => !(listed.setIfInBounds i true).getD j true) ops.size = m := by
      have := cnt_set (f := fun j => !listed.getD j true) (f' := fun j => !(listed.setIfInBounds i true).getD j true) (i := i) (by simp [hun]) (by simp [hs']) (fun j hj => by simp only [getD_set_ne true (Ne.symm hj)]) ops.size
      rw [if_pos hin] at this
      omega
    have hdep : ∀ j, memB j (depsOf o) = true → listed.getD j false = true := by
      intro j hj
      have := memB_mem _ _ hj
      simp only [depsOf, List.mem_map, List.mem_filter] at this
      obtain ⟨e, ⟨he1, he2⟩, rfl⟩ := this
      exact hdeps e (by simpa using he1) he2
    have hlate : ∀ j, wts ops 4 j i = true → listed.getD j false = false := by
      intro j hj
      cases h : listed.getD j false with
      | false => rfl
      | true => have := wts_listed hI 4 j i hj h; rw [hunf] at this; cases this
    have hqq := hq i o ho _ hdep hlate β F a w hS (fun a' w' => wpAny P .any ops Q m (listed.setIfInBounds i true) a' w') Q fun v w' F' g1 g2 g3 g4 => by
      refine ih _ _ _ hcnt (hI.set hi hin) ⟨β, F', ?_⟩
      have hb := hS.grown g1 g2 g3
      cases hd : o.dst with
      | none =>
        have e : (stP σ l T (fun j => (listed.setIfInBounds i true).getD j false)).tm = (stP σ l T (fun j => listed.getD j false)).tm := by
          funext s
          simp only [stP]
          split
          · rename_i j hj
            have hjs := (hl s j hj).2
            have hji : j ≠ i := by rintro rfl; rw [ho] at hjs; simp [hd] at hjs
            rw [getD_set_ne false (Ne.symm hji)]
          · rfl
        refine hb.weaken (fun s => .inl (congrFun e s)) rfl
      | some d =>
        rw [hd] at hBd
        have hfd : fnd l d 0 = some i := by
          dsimp only at hBd
          split at hBd
          · rename_i j hj; rw [hj, Nat.eq_of_beq_eq_true hBd]
          · cases hBd
        have hp' := hb.put (d := some d) g4 (fun k hk => by cases hk; exact hE d o i ho hd)
        refine hp'.weaken (fun s => .inl ?_) rfl
        simp only [stP, St.put, St.set]
        by_cases hsd : s = d
        · subst hsd
          simp [hfd, hs']
        · rw [if_neg hsd]
          split
          · rename_i j hj
            have hji : j ≠ i := by
              rintro rfl
              have h5 := (hl s j hj).2
              rw [ho] at h5
              simp [hd] at h5
              exact hsd h5.symm
            rw [getD_set_ne false (Ne.symm hji)]
          · rfl
    unfold wpOp
    rw [ho]
    dsimp only
    split
    · rename_i hw; rw [if_pos hw] at hqq; exact .inl hqq
    · rename_i hw; rw [if_neg hw] at hqq; exact hqq

theorem W_drawP {id : Nat} {l : List Oper} (hm : P.follows .mixedOrders = true) (hB : drawP l.toArray l = true) (hE : l.all (fun o => dstOk E.n o.dst) = true)
    (h : DrawW P E l.toArray l σ (fun τ => WL P E l.toArray Q [] τ)) : W P E (.region id l.toArray true) Q σ := by
  intro a w hS
  obtain ⟨xs, k1, k2, k3⟩ := drawW_out _ _ _ h
  have hB0 := hB
  simp only [drawP, Bool.and_eq_true, List.all_eq_true, List.mem_range] at hB
  obtain ⟨hf, hB⟩ := hB
  have hdep : ∀ (i : Nat) (o : Oper), l[i]? = some o → ∀ j, memB j (depsOf o) = true → j < i := by
    intro i o ho j hj
    have hin : i < l.toArray.size := by simpa using (List.getElem?_eq_some_iff.1 ho).1
    have := hB i hin
    rw [show l.toArray[i]? = some o by simpa using ho] at this
    simp only [Bool.and_eq_true, List.all_eq_true] at this
    have hm := memB_mem _ _ hj
    simp only [depsOf, List.mem_map, List.mem_filter] at hm
    obtain ⟨e, ⟨he1, he2⟩, rfl⟩ := hm
    exact blt_lt (by simpa [he2] using this.1.1 e (by simpa using he1))
  have hsee : ∀ (i t : Nat) (done : Nat → Bool), i ≤ l.length → (match fnd l t 0 with | some j => ((j < i ∧ done j = true) ∨ (done j = false ∧ i < j)) | none => True) → (stP σ l (fun j => xs.getD j (.c .un)) done).tm t = (pre σ (l.take i) (xs.take i)).tm t := by
    intro i t done hil ht
    rw [pre_tm _ _ _ _ (fresh_take l i hf) (by simp; omega)]
    simp only [stP]
    cases hfd : fnd l t 0 with
    | none =>
      rw [fnd_take_none l i t 0 hfd]
    | some j =>
      rw [hfd] at ht
      dsimp only at ht ⊢
      rcases ht with ⟨h1, h2⟩ | ⟨h1, h2⟩
      · rw [h2, fnd_take_some l i t j hfd h1]
        dsimp only
        rw [List.getD_eq_getElem?_getD, List.getD_eq_getElem?_getD, List.getElem?_take, if_pos h1]
      · rw [h1]
        have hnone : fnd (l.take i) t 0 = none := by
          cases hx : fnd (l.take i) t 0 with
          | none => rfl
          | some k =>
            obtain ⟨_, h5⟩ := fnd_spec _ _ _ _ hx
            rw [Nat.sub_zero] at h5
            obtain ⟨o, ho, hod⟩ := Option.bind_eq_some_iff.1 h5
            have hki : k < i := by
              have := (List.getElem?_eq_some_iff.1 ho).1
              simp at this
              omega
            rw [List.getElem?_take, if_pos hki] at ho
            have hkl := (List.getElem?_eq_some_iff.1 ho).1
            have := hB k (by simpa using hkl)
            rw [show l.toArray[k]? = some o by simpa using ho] at this
            simp only [Bool.and_eq_true] at this
            have h6 := this.1.2
            rw [hod] at h6
            dsimp only at h6
            rw [hfd] at h6
            have : j = k := Nat.eq_of_beq_eq_true h6
            omega
        rw [hnone]
  have hlook : ∀ (i : Nat) (o : Oper), l[i]? = some o → ∀ done : Nat → Bool, (∀ j, memB j (depsOf o) = true → done j = true) → (∀ j, wts l.toArray 4 j i = true → done j = false) → Like l.toArray o (stP σ l (fun j => xs.getD j (.c .un)) done) (pre σ (l.take i) (xs.take i)) := by
    intro i o ho done hd1 hd2
    have hlt : i < l.length := (List.getElem?_eq_some_iff.1 ho).1
    have := hB i (by simpa using hlt)
    rw [show l.toArray[i]? = some o by simpa using ho] at this
    simp only [Bool.and_eq_true] at this
    have hlk := this.2
    simp only [looksP, Bool.and_eq_true, List.all_eq_true] at hlk
    refine ⟨by rw [pre_hp]; rfl, fun x hx => ?_, fun i' b hg d hd => ?_⟩
    · cases x with
      | tmp t =>
        have := hlk.1 (.tmp t) hx
        show str _ = str _
        simp only [ev]
        rw [hsee i t done (by omega) ?_]
        dsimp only at this
        cases hfd : fnd l t 0 with
        | none => trivial
        | some j =>
          rw [hfd] at this
          dsimp only at this ⊢
          simp only [Bool.or_eq_true, Bool.and_eq_true] at this
          rcases this with h | ⟨h1, h2⟩
          · exact .inl ⟨hdep i o ho j h, hd1 j h⟩
          · exact .inr ⟨hd2 j h1, blt_lt h2⟩
      | const v => rfl
      | global g => rfl
      | func f => rfl
    · have := hlk.2
      rw [hg] at this
      dsimp only at this
      rw [hd] at this
      dsimp only at this
      refine hsee i d done (by omega) ?_
      cases hfd : fnd l d 0 with
      | none => trivial
      | some j =>
        rw [hfd] at this
        exact .inl ⟨hdep i o ho j this, hd1 j this⟩
  refine wp_region_any hm ?_
  have hcnt : cnt (fun j => !(Array.replicate l.toArray.size false).getD j true) l.toArray.size = l.toArray.size := by
    have : ∀ m, m ≤ l.length → cnt (fun j => !(Array.replicate l.toArray.size false).getD j true) m = m := by
      intro m
      induction m with
      | zero => intro _; rfl
      | succ m ih =>
        intro hm
        simp only [cnt, ih (by omega)]
        simp [show m < l.length by omega]
    exact this l.toArray.size (by simp)
  have hget : ∀ (i : Nat) (o : Oper), l.toArray[i]? = some o → l[i]? = some o := fun i o h => by simpa using h
  have hxs : ∀ (i : Nat) (o : Oper), l[i]? = some o → xs[i]? = some (xs.getD i (.c .un)) := by
    intro i o ho
    have hlt : i < l.length := (List.getElem?_eq_some_iff.1 ho).1
    have : i < xs.length := by omega
    simp [List.getD_eq_getElem?_getD, List.getElem?_eq_getElem this]
  exact draw_anyP (P := P) (E := E) (ops := l.toArray) (Q := Q) (σ := σ) (l := l) (T := fun j => xs.getD j (.c .un))
    (fun s i hi => by
      obtain ⟨_, h5⟩ := fnd_spec _ _ _ _ hi
      rw [Nat.sub_zero] at h5
      obtain ⟨o, ho, hod⟩ := Option.bind_eq_some_iff.1 h5
      exact ⟨by simpa using (List.getElem?_eq_some_iff.1 ho).1, by simp [ho, hod]⟩)
    hB0 (fun d o i ho hd => dstOk_lt (List.all_eq_true.1 hE o (List.mem_of_getElem? (hget i o ho))) d hd)
    (fun i o ho done h1 h2 => by
      have ho := hget i o ho
      exact k2 i o _ ho (hxs i o ho) _ (hlook i o ho done h1 h2))
    (fun a w hS => k3 a w (by
      obtain ⟨β, F, hS⟩ := hS
      refine ⟨β, F, hS.weaken (fun s => .inl ?_) (by rw [pre_hp]; rfl)⟩
      rw [pre_tm _ _ _ _ hf k1]
      simp only [stP]
      all_goals (cases fnd l s 0 <;> rfl)))
    l.toArray.size (Array.replicate l.toArray.size false) a { w with drawn := w.drawn + 1 } hcnt
    ⟨by simp, fun j oj _ hl => (by rw [getD_replicate_false] at hl; cases hl), fun t _ ht => getD_in (by simpa using ht) (getD_replicate_false _ _)⟩
    (by
      obtain ⟨β, F, hS⟩ := hS
      refine ⟨β, F, (hS.drawn _).weaken (fun s => ?_) rfl⟩
      simp only [stP]
      split
      · rename_i i hi
        rw [getD_replicate_false]
        exact .inl rfl
      · exact .inl rfl)
/-! Structs that hold own rows, lent as data. -/
def leafH (σ : St) : List Cell → List Leaf → Prop
  | [], [] => True
  | c :: cs, x :: xs => (c = .lf x ∨ ∃ j off len k L, c = .own j 1 off len ∧ σ.hp j = .row (.ints k L) ∧ off + len ≤ L.length ∧ x = .ints k ((L.drop off).take len)) ∧ leafH σ cs xs
  | _, _ => False
theorem leafH_get {σ : St} : ∀ {cs : List Cell} {l : List Leaf}, leafH σ cs l → cs.length = l.length ∧ ∀ (i : Nat) (x : Leaf), l[i]? = some x → ∃ c, cs[i]? = some c ∧ (c = .lf x ∨ ∃ j off len k L, c = .own j 1 off len ∧ σ.hp j = .row (.ints k L) ∧ off + len ≤ L.length ∧ x = .ints k ((L.drop off).take len))
  | [], [], _ => ⟨rfl, fun i x h => by simp at h⟩
  | c :: cs, x :: xs, h => by
    obtain ⟨h1, h2⟩ := h
    obtain ⟨h3, h4⟩ := leafH_get h2
    refine ⟨by simp [h3], fun i z hz => ?_⟩
    cases i with
    | zero => simp at hz; subst hz; exact ⟨c, rfl, h1⟩
    | succ i => simpa using h4 i z (by simpa using hz)
  | [], _ :: _, h => h.elim
  | _ :: _, [], h => h.elim
theorem own_ints {β : Nat → Option Nat} {F : Nat → Prop} {a : Act} {w : World} (hS : SRb E β F σ a w) {j off len : Nat} {k : IntKind} {L : List Int} {v : Value} (hj : σ.hp j = .row (.ints k L)) (hl : off + len ≤ L.length) (hm : CellR β F w (.own j 1 off len) v) :
    LfR (fun b => F b ∨ ∃ j, σ.hp j ≠ .gone ∧ β j = some b) w (.ints k ((L.drop off).take len)) v := by
  have h0 : Lend σ (.c (.own j 1 off len)) (.c (.lf (.ints k ((L.drop off).take len)))) := .inr (.inl ⟨j, off, len, k, L, rfl, hj, hl, rfl⟩)
  have := h0.sound hS (.c hm)
  cases this with | c h => cases h with | lf h => exact h
def LendH (σ : St) (y x : Av) : Prop := Lend σ y x ∨ ∃ j cs L, y = .c (.ptr j 0) ∧ σ.hp j = .cells cs ∧ leafH σ cs L ∧ x = .c (.lf (.obj L))
def LendHL (σ : St) : List Av → List Av → Prop
  | [], [] => True
  | y :: ys, x :: xs => LendH σ y x ∧ LendHL σ ys xs
  | _, _ => False
theorem LendHL.get {σ : St} : ∀ {ys xs : List Av}, LendHL σ ys xs → ys.length = xs.length ∧ ∀ (i : Nat) (x : Av), xs[i]? = some x → ∃ y, ys[i]? = some y ∧ LendH σ y x
  | [], [], _ => ⟨rfl, fun i x h => by simp at h⟩
  | y :: ys, x :: xs, h => by
    obtain ⟨h1, h2⟩ := h
    obtain ⟨h3, h4⟩ := LendHL.get h2
    refine ⟨by simp [h3], fun i z hz => ?_⟩
    cases i with
    | zero => simp at hz; subst hz; exact ⟨y, rfl, h1⟩
    | succ i => simpa using h4 i z (by simpa using hz)
  | [], _ :: _, h => h.elim
  | _ :: _, [], h => h.elim
theorem LendH.soundH {β : Nat → Option Nat} {F : Nat → Prop} {a : Act} {w : World} (hS : SRb E β F σ a w) {y x : Av} {v : Value} (h : LendH σ y x) (hv : AvR β F w y v) :
    AvR β (fun b => F b ∨ ∃ j, σ.hp j ≠ .gone ∧ β j = some b) w x v := by
  rcases h with h | ⟨j, cs, L, rfl, hj, hL, rfl⟩
  · exact h.sound hS hv
  · cases hv with | c hv => cases hv with | ptr _ _ g hg =>
    have hB := hS.hp j
    rw [hj] at hB
    obtain ⟨g', cur, hg', hrow, hsz, hcc⟩ := hB
    rw [hg] at hg'
    obtain rfl := Option.some.inj hg'
    obtain ⟨h1, h2⟩ := leafH_get hL
    have hget : ∀ (i : Nat) (x : Leaf), L[i]? = some x → ∃ u, cur[i]? = some u ∧ LfR (fun b => F b ∨ ∃ j, σ.hp j ≠ .gone ∧ β j = some b) w x u := by
      intro i x hx
      obtain ⟨c, hc, hcx⟩ := h2 i x hx
      have hlt : i < cur.size := by rw [hsz]; exact (List.getElem?_eq_some_iff.1 hc).1
      have hcr := hcc i c cur[i] hc (by simp [hlt])
      refine ⟨cur[i], by simp [hlt], ?_⟩
      rcases hcx with rfl | ⟨j2, off, len, k, L2, rfl, hj2, hl2, rfl⟩
      · cases hcr with | lf h => exact h.mono fun b hb => ⟨.inl hb, rfl⟩
      · exact own_ints hS hj2 hl2 hcr
    refine .c (.lf (.obj _ g 0 (fun i => (cur[i]?).getD undef) (.inr ⟨j, by rw [hj]; exact (fun h => by cases h), hg⟩) (fun i x hx => ?_) (fun i x hx => ?_)))
    · obtain ⟨u, hu, _⟩ := hget i x hx
      rw [Nat.zero_add, hrow.cell, hu]; rfl
    · obtain ⟨u, hu, hl⟩ := hget i x hx
      rw [hu]
      exact hl
/-- A call that is lent the call's own blocks as data, and yields what refers to none. -/
theorem opy_callH {c : Call} {fo : Operand} {f : FuncId} {first cap : List Cell} {pf : List Prop} {xs : List Av} {res : Av} (hF : Ct P f xs [] res [] [])
    (hop : o.op = .call c) (hcv : c.callee = .value fo) (hfo : ox σ fo = (pf, .c (.fn (.func f) first cap)))
    (hp : AllP (pf ++ (oxs σ c.args.toList).1)) (hxs : LendHL σ (first.map Av.c ++ (oxs σ c.args.toList).2 ++ cap.map Av.c) xs) (hok : (xs.all (Av.ok 0) && plainA res) = true) : OpY P E o σ res := by
  intro β F a w hS K Q hK
  simp only [Bool.and_eq_true, List.all_eq_true] at hok
  obtain ⟨hle, hlend⟩ := hxs.get
  have hfv := oxR hS fo
  rw [hfo] at hfv
  have hfv := hfv hp.left
  generalize hv : a.eval fo = fv at hfv
  cases hfv with | c hfv => cases hfv with | fn _ _ _ f1 c1 n1 n2 r1 r2 =>
  obtain ⟨l1, l2⟩ := oxs_R hS c.args.toList hp.right
  have hrun : (execOp a.eval o).run P w = .ok (.enter f (f1 ++ c.args.map a.eval ++ c1)) w := by
    simp only [execOp, hop, resolve, hcv, hv, Deferred.ofValue, Sem.run_bind, Sem.run_pure, Result.andThen_ok, invoke]
    exact run_callFunc hF.2.1
  unfold Oper.wp
  rw [hrun, Oper.upon_enter]
  have hargs : ∀ (i : Nat) (x : Av) (v : Value), xs[i]? = some x → (f1 ++ c.args.map a.eval ++ c1).toList[i]? = some v → AvR (fun _ => none) (fun b => F b ∨ ∃ j, σ.hp j ≠ .gone ∧ β j = some b) w x v := by
    intro i x v hx hv
    obtain ⟨y, hy, hl⟩ := hlend i x hx
    have key : AvR β F w y v := by
      simp only [Array.toList_append, List.append_assoc] at hv
      rw [List.append_assoc] at hy
      rcases Nat.lt_or_ge i first.length with h | h
      · rw [List.getElem?_append_left (by simpa using h)] at hy
        rw [List.getElem?_append_left (by simp [n1]; exact h)] at hv
        rw [List.getElem?_map, Option.map_eq_some_iff] at hy
        obtain ⟨x, hx, rfl⟩ := hy
        exact .c (r1 i x v hx (by simpa using hv))
      · rw [List.getElem?_append_right (by simpa using h)] at hy
        rw [List.getElem?_append_right (by simp [n1]; exact h)] at hv
        simp only [List.length_map, Array.length_toList, n1] at hy hv
        rcases Nat.lt_or_ge (i - first.length) c.args.toList.length with h' | h'
        · rw [List.getElem?_append_left (by rw [l1]; exact h')] at hy
          rw [List.getElem?_append_left (by simpa using h')] at hv
          exact l2 _ y v hy (by simpa using hv)
        · rw [List.getElem?_append_right (by rw [l1]; exact h')] at hy
          rw [List.getElem?_append_right (by simpa using h')] at hv
          rw [List.getElem?_map, Option.map_eq_some_iff] at hy
          obtain ⟨x, hx, rfl⟩ := hy
          refine .c (r2 _ x v hx ?_)
          simp only [l1] at hx
          simpa [l1] using hv
    have := AvR.ren (β := fun _ => none) (ρ := id) (n := 0) (fun i h => absurd h (Nat.not_lt_zero _)) (hl.soundH hS key) (hok.1 x (List.mem_of_getElem? hx))
    rwa [Av.ren_id] at this
  have hlen : (f1 ++ c.args.map a.eval ++ c1).toList.length = xs.length := by
    rw [← hle]
    simp [n1, n2, l1]
  have hcall := hF.2.2 w (fun _ => none) _ (f1 ++ c.args.map a.eval ++ c1).toList hlen hargs (fun i b h => by simp at h) (fun i j g h => absurd h (Nat.not_lt_zero _)) (fun j g h => absurd h (Nat.not_lt_zero _)) (fun _ _ => rfl) (fun b hb => by
    rcases hb with hb | ⟨j, _, hj⟩
    · exact (hS.fr b hb).1
    · exact hS.lt j b hj)
  rw [Array.toArray_toList] at hcall
  refine hcall.mono fun e w' hq => ?_
  obtain ⟨v, β', F', rfl, hres, _, _, hout⟩ := hq
  have hg : Grow w w' := ⟨hout.keep.os, hout.keep.tape, hout.keep.output, hout.keep.size, fun k hk => hout.keep.block k hk (by rintro ⟨i, hi, _⟩; exact absurd hi (Nat.not_lt_zero _))⟩
  exact hK v w' F hg (fun b h => h) (fun b hb => .inl hb) (plainA_any hok.2 hres)

theorem LendHL_hp {τ : St} (h : τ.hp = σ.hp) {ys xs : List Av} (hl : LendHL σ ys xs) : LendHL τ ys xs := by
  obtain ⟨t1, h1⟩ := τ
  obtain ⟨t2, h2⟩ := σ
  dsimp only at h
  subst h
  have key : ∀ {cs : List Cell} {l : List Leaf}, leafH ⟨t2, h1⟩ cs l → leafH ⟨t1, h1⟩ cs l := by
    intro cs
    induction cs with
    | nil => intro l hl; cases l with | nil => trivial | cons => exact hl.elim
    | cons c cs ih => intro l hl; cases l with | nil => exact hl.elim | cons x xs => exact ⟨hl.1, ih hl.2⟩
  have key2 : ∀ {ys xs : List Av}, LendHL ⟨t2, h1⟩ ys xs → LendHL ⟨t1, h1⟩ ys xs := by
    intro ys
    induction ys with
    | nil => intro xs hl; cases xs with | nil => trivial | cons => exact hl.elim
    | cons y ys ih =>
      intro xs hl
      cases xs with
      | nil => exact hl.elim
      | cons x xs =>
        refine ⟨?_, ih hl.2⟩
        rcases hl.1 with h | ⟨j, cs, L, e1, e2, e3, e4⟩
        · exact .inl h
        · exact .inr ⟨j, cs, L, e1, e2, key e3, e4⟩
  exact key2 hl
theorem opys_callH {c : Call} {fo : Operand} {f : FuncId} {first cap : List Cell} {pf : List Prop} {xs : List Av} {res : Av} (hF : Ct P f xs [] res [] [])
    (hop : o.op = .call c) (hcv : c.callee = .value fo) (hfo : ox σ fo = (pf, .c (.fn (.func f) first cap)))
    (hp : AllP (pf ++ (oxs σ c.args.toList).1)) (hxs : LendHL σ (first.map Av.c ++ (oxs σ c.args.toList).2 ++ cap.map Av.c) xs) (hok : (xs.all (Av.ok 0) && plainA res) = true) : OpYS P E ops o σ res := by
  intro τ hl
  have hx := hl.ox
  have e1 : ox τ fo = ox σ fo := hx fo (by rw [hop]; simp [Op.operands, Call.operands, hcv])
  have e2 : oxs τ c.args.toList = oxs σ c.args.toList := oxs_like hx _ fun y hy => by
    rw [hop]; simp only [Op.operands, Call.operands]; simp at hy ⊢; first | exact .inr hy | exact .inl hy | simp [hy]
  exact opy_callH hF hop hcv (by rw [e1]; exact hfo) (by rw [e2]; exact hp) (by rw [e2]; exact LendHL_hp hl.hp hxs) hok
end
end Go.Sx

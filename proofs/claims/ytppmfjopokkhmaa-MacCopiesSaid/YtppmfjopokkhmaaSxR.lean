/-
  The layer's latter part: operations under a condition that holds. No condition.
-/
import Derived.Test.YtppmfjopokkhmaaSxP
import Derived.Lib.AppendZerosOnto
namespace Go.Sx
open Go
set_option linter.unusedVariables false
set_option linter.unusedSimpArgs false

section
variable {P : Program} {E : Env} {ops : Array Oper} {Q : Exit → Act → World → Prop} {rest : List Oper} {o : Oper} {σ : St} {x : Av}

/-- An operation whose condition holds. -/
theorem WL_gT {i : Nat} {b : Bool} (hg : o.guard = some (i, b)) (hG : guardC ops σ i b = some true) (hk : WL P E ops Q ({ o with guard := none } :: rest) σ) : WL P E ops Q (o :: rest) σ := by
  intro a w hS
  have h := hk a w hS
  obtain ⟨β, F, hS'⟩ := hS
  have hw : Region.wanted o (yielded ops a.tmps) = true := guardB_wanted (o := o) (guardC_eq hG) hg hS'
  have hw' : Region.wanted { o with guard := none } (yielded ops a.tmps) = true := by simp [Region.wanted]
  unfold wpList at h ⊢
  rw [hw]
  rw [hw'] at h
  exact h
theorem zeroCells_one (k : IntKind) (n : Nat) : (Builtin.zeroCells (Value.int k 0).cells n).toList = List.replicate n (Value.int k 0) := by
  apply List.ext_getElem?
  intro i
  simp only [Builtin.zeroCells, Value.cells, Array.toList_map, List.getElem?_map, Array.toList_range, List.size_toArray, List.length_cons, List.length_nil, Nat.zero_add, Nat.mul_one, List.getElem?_replicate, List.getElem?_range]
  split
  · rename_i h
    simp [h, Nat.mod_one]
  · rename_i h
    simp [h]
/-- 'append(s, make([]T, n)...)', s a row of the call's own. -/
theorem s_appendZ {t tn e : TypeId} {by_ : Nat} {c : Call} {x y : Operand} {px py : List Prop} {j : Nat} {k kn kv : IntKind} {l : List Int} {n : Nat} {dd : Option Nat} (hop : o.op = .call c) (hc : c.callee = .builtin .append) (ha : c.args.toList = [x, y]) (hty : c.argTypes.toList = [t, tn]) (hg : o.guard = none)
    (hdf : forceO o.dst some = some dd) (hd : dstOk E.n dd = true)
    (hE : Elt P t e 1 by_) (hz0 : (P.info? e).bind (·.zero) = some (.int k 0)) (htn : P.underlying tn = some (.int kn)) (hx : ox σ x = (px, .c (.own j 1 0 l.length))) (hb : σ.hp j = .row (.ints k l)) (hj64 : Nat.ble 64 j = true) (hy : ox σ y = (py, lv (.int kv (n : Int)))) (hp : AllP (px ++ py))
    (hlim : l.length + n ≤ 4294967296 ∧ by_ ≤ 4096)
    (hk : WL P E ops Q rest (((σ.kill j).seth j (.row (.ints k (l ++ List.replicate n 0)))).put dd (.c (.own j 1 0 (l ++ List.replicate n (0 : Int)).length)))) : WL P E ops Q (o :: rest) σ := by
  simp only [forceO_eq, Option.some.injEq] at hdf
  subst hdf
  intro a w hS
  obtain ⟨β, F, hS⟩ := hS
  have hv1 := oxR hS x
  rw [hx] at hv1
  have hv1 := hv1 hp.left
  have hv2 := oxR hS y
  rw [hy] at hv2
  have hv2 := (hv2 hp.right).val
  have hca : c.args = #[x, y] := by apply Array.toList_inj.1; simpa using ha
  have hct : c.argTypes = #[t, tn] := by apply Array.toList_inj.1; simpa using hty
  generalize he1 : a.eval x = v1 at hv1
  dsimp only at hv1
  cases hv1 with | c hv1 => cases hv1 with | own _ _ _ _ ao cap hlc hmx hh =>
  obtain ⟨hl1, hl2⟩ := hlim
  obtain ⟨ht, i, z, hi, hz, hsz, hby, hzs⟩ := hE
  have : z = .int k 0 := by simpa [hi, hz] using hz0
  subst this
  have hjn : E.nb ≤ j := by have := hS.nbl; have : 64 ≤ j := by simpa using hj64
                            omega
  have hgone : σ.hp j ≠ .gone := by rw [hb]; intro h; cases h
  have hB := hS.hp j
  rw [hb] at hB
  have hll : (l ++ List.replicate n (0 : Int)).length = l.length + n := by simp
  have hw : IntKind.i64.wrap (n : Int) = n := by rw [wrap_i64]; omega
  have hneg : ¬ ((n : Int) < 0) := by omega
  have hw00 : IntKind.i64.wrap 0 = 0 := by decide
  have h48i : ¬ (281474976710656 < (n : Int) * (i.bytes : Int)) := by
    have : n * i.bytes ≤ 4294967296 * 4096 := Nat.mul_le_mul (by omega) (by omega)
    rw [← Int.natCast_mul]
    omega
  have hcell : ∀ g cur, β j = some g → Row w g cur → ∀ (i : Nat) (x : Int), l[i]? = some x → cur[i]? = some (Value.int k x) := by
    intro g cur hg' hrow i x hi
    rcases hB with ⟨h0, _⟩ | ⟨g2, cur2, h1, h2, h3⟩
    · subst h0; simp at hi
    · rw [hg'] at h1
      obtain rfl := Option.some.inj h1
      have : cur2 = cur := by
        obtain ⟨t1, f1, k1, _⟩ := hrow
        obtain ⟨t2, f2, k2, _⟩ := h2
        rw [k1] at k2
        simp only [Option.some.injEq, Obj.cells.injEq] at k2
        exact k2.1.symm
      subst this
      exact h3 _ _ hi
  refine wpList_plain hg fun KK hKK => ?_
  unfold Oper.wp
  by_cases hroom : l.length + n ≤ cap
  · rcases hh with rfl | ⟨g, hgj, rfl, hcap⟩
    · have hl0 : l = [] := List.eq_nil_of_length_eq_zero (by omega)
      have hn0 : n = 0 := by omega
      subst hl0; subst hn0
      have hrun : (Builtin.append_ #[t, tn] o.type #[.slice ao 0 0, .int kv 0]).run P w = .ok (.slice ao 0 0) w := by
        cases ao with
        | none => simp [Builtin.append_, run_underlying ht, run_underlying htn, sizeOf, typeInfo, hi, hsz, asInt, asIntOf, hw00]
        | some b => simp [Builtin.append_, run_underlying ht, run_underlying htn, sizeOf, typeInfo, hi, hsz, asInt, asIntOf, hw00, storeCells]
      rw [run_append_call hop hc hca hct (by rw [he1, hv2]; exact hrun)]
      refine hKK _ _ (hk _ _ ⟨β, F, SRb.put ?_ (.c (.own _ _ _ _ _ _ (by simp) (by decide) (.inl rfl))) (dstOk_lt hd)⟩)
      exact hS.forget j hb rfl
    · obtain ⟨cur, hrow, hcap⟩ := hcap
      have hcur := hcell g cur hgj hrow
      obtain ⟨_, _, hnF⟩ := hS.own j g hgone hgj
      have hle : l.length + (List.replicate n (Value.int k 0)).length ≤ cur.size := by simp; omega
      obtain ⟨w', r1, r2⟩ := run_storeCells' (P := P) (g := g) (off := l.length) (List.replicate n (Value.int k 0)) 0 w cur (fun u hu => by rw [(List.mem_replicate.1 hu).2]; rfl) hrow (by simp; omega)
      simp only [Nat.add_zero] at r2
      have hls := size_lay hle
      have hrun : (Builtin.append_ #[t, tn] o.type #[.slice (some ⟨g, 0, none⟩) l.length cap, .int kv (n : Int)]).run P w = .ok (.slice (some ⟨g, 0, none⟩) (l.length + n) cap) w' := by
        rcases Nat.eq_zero_or_pos n with h0 | h0
        · subst h0
          simp [Builtin.append_, run_underlying ht, run_underlying htn, sizeOf, typeInfo, hi, hsz, asInt, asIntOf, hw00, hlc, add_none] at r1 ⊢
          simpa [storeCells] using r1
        · have hns : ¬ (n = 0) := by omega
          simp [Builtin.append_, run_underlying ht, run_underlying htn, sizeOf, typeInfo, zeroValue, hi, hz, hsz, asInt, asIntOf, hw, hneg, h48i, hroom, hns, add_none, zeroCells_one, r1]
      rw [run_append_call hop hc hca hct (by rw [he1, hv2]; exact hrun)]
      have hS2 := (hS.written hgone hgj hrow r2 hls (blk := .row (.ints k (l ++ List.replicate n 0))) (.inr ⟨g, _, hgj, r2.row, fun i v hv => by
        rw [get_lay hle]
        rw [List.getElem?_append] at hv
        by_cases h1 : i < l.length
        · rw [if_pos h1] at hv ⊢
          exact hcur i v hv
        · rw [if_neg h1] at hv ⊢
          have hlt2 := (List.getElem?_eq_some_iff.1 hv).1
          rw [List.getElem?_replicate] at hv
          simp only [List.length_replicate] at hlt2
          rw [if_pos hlt2] at hv
          rw [if_pos (by simp; omega), List.getElem?_replicate, if_pos hlt2, ← Option.some.inj hv]⟩)).1
      have hS3 := hS2.forget j (blk := .row (.ints k (l ++ List.replicate n 0))) (by simp [St.seth]) rfl
      have e3 : ((σ.seth j (.row (.ints k (l ++ List.replicate n 0)))).kill j).seth j (.row (.ints k (l ++ List.replicate n 0))) = (σ.kill j).seth j (.row (.ints k (l ++ List.replicate n 0))) := by
        simp only [St.seth, St.kill, St.mk.injEq]
        refine ⟨trivial, funext fun i => ?_⟩
        by_cases e' : i = j <;> simp [e']
      rw [e3] at hS3
      refine hKK _ _ (hk _ _ ⟨β, F, hS3.put (.c ?_) (dstOk_lt hd)⟩)
      rw [hll]
      exact .own _ _ _ _ _ _ hroom hmx (.inr ⟨g, hgj, rfl, _, r2.row, by rw [hls]; omega⟩)
  · have h0 : 0 < n := by omega
    have hdr := hS.drawn (w.drawn + 1)
    have hold : (Builtin.firstCells i.size l.length (.slice ao l.length cap)).run P w.drew = .ok (l.map (Value.int k)).toArray w.drew := by
      rw [hsz]
      cases ao with
      | none =>
        have hc0 : cap = 0 := by
          rcases hh with h | ⟨g, _, h, _⟩
          · exact h
          · cases h
        have hl0 : l = [] := List.eq_nil_of_length_eq_zero (by omega)
        subst hl0
        simp [Builtin.firstCells]
      | some b =>
        by_cases hl0 : l = []
        · subst hl0
          simp [Builtin.firstCells, loadCells, loadCellsFrom]
        · rcases hh with h | ⟨g, hgj, h, cur, hrow, hcap⟩
          · exact absurd (List.eq_nil_of_length_eq_zero (by omega)) hl0
          · obtain rfl := Option.some.inj h
            have hc2 := hcell g cur hgj hrow
            simp only [Builtin.firstCells]
            refine loadCells_row (P := P) (w := w.drew) (b := g) (o := 0) (cs := l.map (Value.int k)) (fun i v hv => ?_) (by simp)
            rw [List.getElem?_map, Option.map_eq_some_iff] at hv
            obtain ⟨u, hu, rfl⟩ := hv
            have : w.drew.cell? ⟨g, 0 + i, none⟩ = w.cell? ⟨g, 0 + i, none⟩ := rfl
            rw [this, Nat.zero_add, hrow.cell]
            exact hc2 _ _ hu
    have hb1 : (l.length + n) * by_ ≤ 140737488355328 := by
      have : (l.length + n) * by_ ≤ 4294967296 * 4096 := Nat.mul_le_mul (by omega) hl2
      omega
    have hrun := Lib.run_append_grow_zeros (P := P) w t tn o.type e i (.int k 0) kv kn ht htn hi hz ao l.length cap (l.map (Value.int k)) hold n h0 (by omega) (by omega) (by omega) (by rw [hby]; have : n * by_ ≤ 4294967296 * 4096 := Nat.mul_le_mul (by omega) hl2; omega) (by rw [hby]; exact growslice_fits (by omega) hb1)
    rw [run_append_call hop hc hca hct (by rw [he1, hv2]; exact hrun)]
    have hk2 := hdr.kill j hjn
    have hcap2 : l.length + n ≤ grownCap w (l.length + n) cap e := grownCap_ge w (l.length + n) cap e
    have hcm : grownCap w (l.length + n) cap e ≤ maxLen := grownCap_le_maxLen w (l.length + n) cap e (by simp only [maxLen]; omega)
    have hsize : ((l.map (Value.int k)).toArray ++ Builtin.zeroCells (Value.int k 0).cells n ++ Builtin.zeroCells (Value.int k 0).cells (grownCap w (l.length + n) cap e - (l.length + n))).size = grownCap w (l.length + n) cap e := by
      simp only [Array.size_append, List.size_toArray, List.length_map, size_zeroCells]
      have : (Value.int k 0).cells.size = 1 := rfl
      rw [this]
      omega
    obtain ⟨β2, hS2, h4⟩ := newRow' (t := e) (j := j) (d := .ints k (l ++ List.replicate n 0)) (vs := (l ++ List.replicate n 0).map (Value.int k)) hk2 (by simp) hjn (by simp [St.kill]) (by simp [RC])
      (cur := (l.map (Value.int k)).toArray ++ Builtin.zeroCells (Value.int k 0).cells n ++ Builtin.zeroCells (Value.int k 0).cells (grownCap w (l.length + n) cap e - (l.length + n))) (fun i v hv => by
        have e1 : (l ++ List.replicate n 0).map (Value.int k) = l.map (Value.int k) ++ (Builtin.zeroCells (Value.int k 0).cells n).toList := by rw [zeroCells_one]; simp
        rw [e1] at hv
        have hlt := (List.getElem?_eq_some_iff.1 hv).1
        rw [← Array.getElem?_toList, Array.toList_append, Array.toList_append, List.getElem?_append_left (by simpa using hlt)]
        exact hv)
    refine hKK _ _ (hk _ _ ⟨β2, F, hS2.put (.c ?_) (dstOk_lt hd)⟩)
    rw [hll]
    exact .own _ _ _ _ _ _ hcap2 hcm (.inr ⟨_, h4, rfl, _, row_alloc _ _, by rw [hsize]; omega⟩)

/-! The same in drawn regions. -/
theorem LendL_hp {τ : St} (h : τ.hp = σ.hp) : ∀ {ys xs : List Av}, LendL σ ys xs → LendL τ ys xs
  | [], [], _ => trivial
  | y :: ys, x :: xs, hl => by
    refine ⟨?_, LendL_hp h hl.2⟩
    have := hl.1
    unfold Lend at this ⊢
    rw [h]
    exact this
  | [], _ :: _, hl => hl.elim
  | _ :: _, [], hl => hl.elim
theorem opys_callL {c : Call} {fo : Operand} {f : FuncId} {first cap : List Cell} {pf : List Prop} {xs : List Av} {res : Av} (hF : Ct P f xs [] res [] [])
    (hop : o.op = .call c) (hcv : c.callee = .value fo) (hfo : ox σ fo = (pf, .c (.fn (.func f) first cap)))
    (hp : AllP (pf ++ (oxs σ c.args.toList).1)) (hxs : LendL σ (first.map Av.c ++ (oxs σ c.args.toList).2 ++ cap.map Av.c) xs) (hok : (xs.all (Av.ok 0) && plainA res) = true) : OpYS P E ops o σ res := by
  intro τ hl
  have hx := hl.ox
  have e1 : ox τ fo = ox σ fo := hx fo (by rw [hop]; simp [Op.operands, Call.operands, hcv])
  have e2 : oxs τ c.args.toList = oxs σ c.args.toList := oxs_like hx _ fun y hy => by
    rw [hop]; simp only [Op.operands, Call.operands]; simp at hy ⊢; first | exact .inr hy | exact .inl hy | simp [hy]
  exact opy_callL hF hop hcv (by rw [e1]; exact hfo) (by rw [e2]; exact hp) (by rw [e2]; exact LendL_hp hl.hp hxs) hok
theorem opys_lit {t e : TypeId} {sz by_ n : Nat} {parts : Array (Nat × Operand)} {ps : List Prop} {out : List Cell} {d : Leaf} (hop : o.op = .buildSlice t n parts) (hE : Elt P t e sz by_) (hz : zeroOk P e)
    (hf : fillA (fun i => some (i * sz, sz)) (List.replicate (n * sz) .un) (parts.toList.map fun (i, x) => (i, ox σ x)) = some (ps, out)) (hp : AllP ps) (hdd : dataOf P e sz n out = some d) (hn : n * sz ≤ 16777216 ∧ n ≤ 16777216 ∧ lenD d = n ∧ szD d = sz) :
    OpYS P E ops o σ (.c (.lf d)) := by
  intro τ hl
  have e1 : (parts.toList.map fun (i, x) => (i, ox τ x)) = parts.toList.map fun (i, x) => (i, ox σ x) := List.map_congr_left fun p hp => by
    obtain ⟨i, x⟩ := p
    have : ox τ x = ox σ x := hl.ox x (by
      rw [hop]
      simp only [Op.operands]
      simp
      exact ⟨i, by simpa using hp⟩)
    simp only [this]
  exact opy_lit hop hE hz (by rw [e1]; exact hf) hp hdd hn
theorem opys_eqA {t t' e : TypeId} {n : Nat} {k k' : IntKind} {neg : Bool} {y z : Operand} {p q : List Prop} {l m : List Int} (hop : o.op = .binOp (if neg then .neq else .eql) t y z t') (ht : P.underlying t = some (.array n e)) (he : P.underlying e = some (.int k')) (hc : P.cellsOf e = 1)
    (hy : ox σ y = (p, .ai k l)) (hz : ox σ z = (q, .ai k m)) (hp : AllP (p ++ q)) (hg : P.eqGuardType P.depth t = false) (hl : l.length = n) (hm : m.length = n) : OpYS P E ops o σ (lv (.bool ((l == m) != neg))) := by
  intro τ hlk
  have e1 : ox τ y = ox σ y := hlk.ox y (by rw [hop]; simp [Op.operands])
  have e2 : ox τ z = ox σ z := hlk.ox z (by rw [hop]; simp [Op.operands])
  exact opy_eqA hop ht he hc (by rw [e1]; exact hy) (by rw [e2]; exact hz) hp hg hl hm
end
end Go.Sx

/-
  Bytes and strings, slices against nil, a row of the call's own handed over as data. No condition.
-/
import Derived.Test.YtppmfjopokkhmaaSxS
import Derived.Lib.ConvBytes
import Derived.Laws.BytesArg
import Derived.Laws.Cover3
import Derived.WalkSpells
namespace Go.Sx
open Go
set_option linter.unusedVariables false

/-- As OpQ, the guard left out of sight. -/
def OpY (P : Program) (E : Env) (o : Oper) (σ : St) (x : Av) : Prop :=
  ∀ β F a w, SRb E β F σ a w → ∀ (K : Act → World → Prop) (Q : Exit → Act → World → Prop),
    (∀ v w' F', Grow w w' → (∀ b, F b → F' b) → (∀ b, F' b → F b ∨ (w.heap.size ≤ b ∧ b < w'.heap.size)) → AvR β F' w' x v → K (a.put o.dst v) w') → o.wp P a w K Q

section
variable {P : Program} {E : Env} {ops : Array Oper} {Q : Exit → Act → World → Prop} {o : Oper} {σ : St} {x : Av}

theorem opq_of (h : OpY P E o σ x) (hg : o.guard = none) : OpQ P E ops o σ x := by
  intro β F a w hS K Q hK
  rw [show Region.wanted o (yielded ops a.tmps) = true by simp [Region.wanted, hg], if_pos rfl]
  exact h β F a w hS K Q hK
theorem opq_ofG {i : Nat} {b G : Bool} (hg : o.guard = some (i, b)) (hG : guardC ops σ i b = some G) (h : G = true → OpY P E o σ x) : OpQ P E ops o σ (.cnd G x) := by
  intro β F a w hS K Q hK
  rw [guardB_wanted (o := o) (guardC_eq hG) hg hS]
  cases G with
  | true =>
    rw [if_pos rfl]
    exact h rfl β F a w hS K Q fun v w' F' g1 g2 g3 g4 => hK v w' F' g1 g2 g3 (.cnd _ _ _ (fun _ => g4) (fun h => by cases h))
  | false =>
    rw [if_neg (by simp)]
    exact hK _ w F (.refl w) (fun _ h => h) (fun _ h => .inl h) (.cnd _ _ _ (fun h => by cases h) (fun _ => rfl))

theorem opy_call {c : Call} {fo : Operand} {f : FuncId} {first cap : List Cell} {pf : List Prop} {xs : List Av} {res : Av} (hF : Ct P f xs [] res [] [])
    (hop : o.op = .call c) (hcv : c.callee = .value fo) (hfo : ox σ fo = (pf, .c (.fn (.func f) first cap)))
    (hp : AllP (pf ++ (oxs σ c.args.toList).1)) (hxs : first.map Av.c ++ (oxs σ c.args.toList).2 ++ cap.map Av.c = xs) (hok : (xs.all (Av.ok 0) && res.ok 0) = true) : OpY P E o σ res :=
  opq_call0 hF hop hcv hfo hp hxs hok
theorem opy_pure (nw : Bool) {d : Option Nat} {ps : List Prop} (h : norm o.dst (pureOp nw P σ o) = some (d, ps, x)) (hp : AllP ps) : OpY P E o σ x := by
  intro β F a w hS K Q hK
  obtain ⟨z, h1, h2⟩ := pureOp_sound (norm_eq h).1 hp hS
  unfold Oper.wp
  rw [h1]
  exact hK z w F (.refl w) (fun _ h => h) (fun _ h => .inl h) h2
theorem opy_val (h : ∀ β F a w, SRb E β F σ a w → ∃ v w' F', (execOp a.eval o).run P w = .ok (.value v) w' ∧ Grow w w' ∧ (∀ b, F b → F' b) ∧ (∀ b, F' b → F b ∨ (w.heap.size ≤ b ∧ b < w'.heap.size)) ∧ AvR β F' w' x v) : OpY P E o σ x := by
  intro β F a w hS K Q hK
  obtain ⟨v, w', F', h0, h1, h2, h3, h4⟩ := h β F a w hS
  unfold Oper.wp
  rw [h0]
  exact hK v w' F' h1 h2 h3 h4

/-- 'string(b)'. -/
theorem opy_str {s d e : TypeId} {y : Operand} {ps : List Prop} {l : List Int} (hop : o.op = .convert s d y) (hs : P.underlying s = some (.slice e)) (he : P.underlying e = some (.int .u8)) (hd : P.underlying d = some .string)
    (hx : srcP σ (ox σ y) = some (ps, .ints .u8 l)) (hp : AllP ps) : OpY P E o σ (lv (.string (strOfNums l))) := by
  refine opy_val fun β F a w hS => ?_
  obtain ⟨ad, m, c, vs, hv, hm, hmc, hr, hcell⟩ := srcP_sound hS hx hp (oxR hS y)
  simp only [RC] at hr
  simp only [lenD] at hm
  refine ⟨.string (strOfNums l), w, F, ?_, .refl w, fun _ h => h, fun _ h => .inl h, .c (.lf (.v _ rfl))⟩
  simp only [execOp, hop, hv, Sem.run_bind]
  cases ad with
  | none =>
    have hl : l = [] := by
      cases l with
      | nil => rfl
      | cons z l =>
        obtain ⟨b, o', h, _⟩ := hcell (by rw [hr]; simp)
        cases h
    subst hl
    rw [run_convert_bytes_nil w s e hs he _ _ d hd]
    rfl
  | some b =>
    by_cases hl : l = []
    · subst hl
      simp only [List.length_nil] at hm
      subst hm
      obtain ⟨b1, b2, b3⟩ := b
      have : (convert s d (.slice (some ⟨b1, b2, b3⟩) 0 c)).run P w = .ok (.string (strOfNums [])) w := by
        rw [run_convert_bytes_string w s d e _ 0 c hs he hd, run_bytesToString w _ 0 c [] (by simp [loadCells, loadCellsFrom])]
        rfl
      rw [this]; rfl
    · obtain ⟨b', o', h1, h2⟩ := hcell (by rw [hr]; simpa using hl)
      obtain rfl := Option.some.inj h1
      rw [run_convert_bytes_arg w s e hs he b' o' m c l hm.symm (fun i hi => by
        refine h2 i _ ?_
        rw [hr]
        simp [show i < l.length by omega]) d hd]
      rfl

/-- '[]byte(s)'. -/
theorem opy_bytes {s d e : TypeId} {y : Operand} {ps : List Prop} {t : ByteArray} (hop : o.op = .convert s d y) (hs : P.underlying s = some .string) (hd : P.underlying d = some (.slice e)) (he : P.underlying e = some (.int .u8))
    (hx : ox σ y = (ps, lv (.string t))) (hp : AllP ps) (hsz : t.size ≤ maxLen) : OpY P E o σ (.c (.lf (.ints .u8 (bs t)))) := by
  refine opy_val fun β F a w hS => ?_
  have hv := oxR hS y
  rw [hx] at hv
  have hv := (hv hp).val
  have hrun := Lib.run_convert_string_bytes (P := P) w s d e t hs hd he
  have hb := Lib.bytesWorld_size w e t
  refine ⟨.slice (some ⟨w.heap.size, 0, none⟩) t.size (grownCap w t.size 0 e), Lib.bytesWorld w e t, fun b => F b ∨ b = w.heap.size, ?_, ⟨rfl, rfl, rfl, by omega, fun k hk => Lib.bytesWorld_at_old w e t k hk⟩, fun _ h => .inl h, fun b hb' => ?_, ?_⟩
  · simp only [execOp, hop, hv, Sem.run_bind, hrun, Result.andThen_ok]
    rfl
  · rcases hb' with h | h
    · exact .inl h
    · exact .inr (by omega)
  · have hsz' : t.size = (bs t).length := by
      rw [bs, List.length_map]; exact (Array.length_toList).symm
    refine .c (.lf (.ints _ _ _ _ _ hsz' (grownCap_ge w t.size 0 e) (grownCap_le_maxLen w t.size 0 e hsz) fun hne => ⟨w.heap.size, 0, rfl, .inr rfl, fun i x hx => ?_⟩))
    have hlt : i < t.size := by rw [hsz']; exact (List.getElem?_eq_some_iff.1 hx).1
    rw [Nat.zero_add, Lib.bytesWorld_cell w e t i hlt]
    have hlt2 : i < t.data.size := hlt
    simp only [bs, List.getElem?_map, Option.map_eq_some_iff] at hx
    obtain ⟨b, hb1, rfl⟩ := hx
    rw [List.getD_eq_getElem?_getD, hb1]
    rfl

/-- 's == nil', 's != nil': told only if the slice has something. -/
theorem s_nilS {rest : List Oper} {t t' e : TypeId} {neg : Bool} {y : Operand} {ps : List Prop} {d : Leaf} (hop : o.op = .binOp (if neg then .neq else .eql) t y (.const (.slice none 0 0)) t') (hg : o.guard = none) (hdd : dstOk E.n o.dst = true)
    (ht : P.underlying t = some (.slice e)) (hx : srcP σ (ox σ y) = some (ps, d)) (hp : AllP ps) (hsz : szD d ≠ 0) (hk : ∀ b : Bool, ((b != neg) = true → lenD d = 0) → WL P E ops Q rest (σ.put o.dst (lv (.bool b)))) : WL P E ops Q (o :: rest) σ := by
  intro a w hS
  obtain ⟨β, F, hS⟩ := hS
  obtain ⟨ad, m, c, vs, hv, hm, hmc, hr, hcell⟩ := srcP_sound hS hx hp (oxR hS y)
  have hlen : ad = none → lenD d = 0 := by
    rintro rfl
    by_cases hvs : vs = []
    · have := hr.length
      rw [hvs] at this
      rcases Nat.eq_zero_or_pos (lenD d) with h | h
      · exact h
      · have := Nat.mul_pos h (Nat.pos_of_ne_zero hsz)
        simp at *
        omega
    · obtain ⟨_, _, h, _⟩ := hcell hvs
      cases h
  refine wpList_plain hg fun K hK => ?_
  unfold Oper.wp
  have hrun : (execOp a.eval o).run P w = .ok (.value (.bool (ad.isNone != neg))) w := by
    simp only [execOp, hop, hv, Sem.run_bind]
    cases neg
    · simp [eqGuard, binOp, Op.equal, Op.maxDepth, Lib.run_equalIn_slice_nil w 9999 t e ad m c 0 0 ht, Act.eval]
    · simp [eqGuard, binOp, Op.equal, Op.maxDepth, Lib.run_equalIn_slice_nil w 9999 t e ad m c 0 0 ht, Act.eval]
  rw [hrun]
  refine hK _ _ (hk (ad.isNone != neg) (fun h => ?_) _ _ ⟨β, F, hS.put (.c (.lf (.v _ rfl))) (dstOk_lt hdd)⟩)
  refine hlen ?_
  cases ad <;> cases neg <;> simp_all
end
end Go.Sx

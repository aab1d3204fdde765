/-
  Regions whose order is open: operations that only read, or make memory of their own, in whatever order; then the rest in theirs. No condition.
-/
import Derived.Test.YtppmfjopokkhmaaSxQ
import Derived.StillTail
namespace Go.Sx
open Go
set_option linter.unusedVariables false

/-- Memory has only grown. -/
structure Grow (w w' : World) : Prop where
  os : w'.os = w.os
  tape : w'.tape = w.tape
  output : w'.output = w.output
  size : w.heap.size ≤ w'.heap.size
  block : ∀ k, k < w.heap.size → w'.heap[k]? = w.heap[k]?

theorem Grow.refl (w : World) : Grow w w := ⟨rfl, rfl, rfl, Nat.le_refl _, fun _ _ => rfl⟩

theorem SRb.grown {E : Env} {β : Nat → Option Nat} {F F' : Nat → Prop} {σ : St} {a : Act} {w w' : World} (h : SRb E β F σ a w) (hg : Grow w w') (h1 : ∀ b, F b → F' b) (h2 : ∀ b, F' b → F b ∨ (w.heap.size ≤ b ∧ b < w'.heap.size)) :
    SRb E β F' σ a w' := by
  have hF : ∀ b, F b → F' b ∧ w'.heap[b]? = w.heap[b]? := fun b hb => ⟨h1 b hb, hg.block b (h.fr b hb).1⟩
  have hC : ∀ g n, CapOk w g n → CapOk w' g n := fun g n hc => hc.same (hg.block g hc.lt)
  have hFb : ∀ b, F b → w'.heap[b]? = w.heap[b]? := fun b hb => (hF b hb).2
  refine ⟨fun i => (h.tm i).mono (fun _ _ h => h) hF hC, h.sz, h.df, fun j => ?_, h.inj, fun j g hj e => ?_, fun j g e => Nat.lt_of_lt_of_le (h.lt j g e) hg.size, fun b hb => ?_, ?_, h.bb, h.nbl⟩
  · have h0 : BlkR β F w' j (σ.hp j) := (h.hp j).mono (fun _ _ h => h) rfl hFb hC (fun g e => hg.block g (h.lt j g e))
    revert h0
    cases σ.hp j with
    | gone => exact fun _ => trivial
    | cells cs =>
      rintro ⟨g, cur, e1, e2, e3, e4⟩
      exact ⟨g, cur, e1, e2, e3, fun i x v hx hv => (e4 i x v hx hv).mono (fun _ _ h => h) (fun b hb => ⟨h1 b hb, rfl⟩) (fun _ _ h => h)⟩
    | row d =>
      cases d with
      | ints k l => exact fun h => h
      | recs sz l =>
        rintro ⟨e1, e2⟩
        refine ⟨e1, ?_⟩
        rcases e2 with e2 | ⟨g, cur, e2, e3, e4⟩
        · exact .inl e2
        · refine .inr ⟨g, cur, e2, e3, fun i r k x hi hk => ?_⟩
          obtain ⟨u, hu, hl⟩ := e4 i r k x hi hk
          exact ⟨u, hu, hl.mono fun b hb => ⟨h1 b hb, rfl⟩⟩
      | v => exact fun h => h
      | obj => exact fun h => h
  · obtain ⟨a1, a2, a3⟩ := h.own j g hj e
    refine ⟨Nat.lt_of_lt_of_le a1 hg.size, a2, fun hf => ?_⟩
    rcases h2 g hf with h | h
    · exact a3 h
    · omega
  · rcases h2 b hb with h' | h'
    · obtain ⟨a1, a2⟩ := h.fr b h'
      exact ⟨Nat.lt_of_lt_of_le a1 hg.size, a2⟩
    · exact ⟨h'.2, .inr (Nat.le_trans h.keep.size h'.1)⟩
  · exact h.keep.trans (M' := fun _ => False) ⟨hg.os, hg.tape, hg.output, hg.size, fun k hk _ => hg.block k hk, hC⟩ (fun _ h => h) (fun _ _ h => h.elim)

/-- What is asked of an operation in whatever order: it yields x, and writes nothing that was there. -/
def OpQ (P : Program) (E : Env) (ops : Array Oper) (o : Oper) (σ : St) (x : Av) : Prop :=
  ∀ β F a w, SRb E β F σ a w → ∀ (K : Act → World → Prop) (Q : Exit → Act → World → Prop),
    (∀ v w' F', Grow w w' → (∀ b, F b → F' b) → (∀ b, F' b → F b ∨ (w.heap.size ≤ b ∧ b < w'.heap.size)) → AvR β F' w' x v → K (a.put o.dst v) w') →
    if Region.wanted o (yielded ops a.tmps) then o.wp P a w K Q else K (a.put o.dst undef) w

section
variable {P : Program} {E : Env} {ops : Array Oper} {Q : Exit → Act → World → Prop} {o : Oper} {σ : St}

theorem opq_pure (nw : Bool) {d : Option Nat} {ps : List Prop} {x : Av} (hg : o.guard = none) (h : norm o.dst (pureOp nw P σ o) = some (d, ps, x)) (hp : AllP ps) : OpQ P E ops o σ x := by
  intro β F a w hS K Q hK
  rw [show Region.wanted o (yielded ops a.tmps) = true by simp [Region.wanted, hg], if_pos rfl]
  obtain ⟨z, h1, h2⟩ := pureOp_sound (norm_eq h).1 hp hS
  unfold Oper.wp
  rw [h1]
  exact hK z w F (.refl w) (fun _ h => h) (fun _ h => .inl h) h2
theorem opq_pureG (nw : Bool) {i : Nat} {b G : Bool} {d : Option Nat} {ps : List Prop} {x : Av} (hg : o.guard = some (i, b)) (hG : guardC ops σ i b = some G) (h : norm o.dst (pureOp nw P σ o) = some (d, ps, x)) (hp : G = true → AllP ps) :
    OpQ P E ops o σ (.cnd G x) := by
  intro β F a w hS K Q hK
  have hw := guardB_wanted (o := o) (guardC_eq hG) hg hS
  rw [hw]
  cases G with
  | true =>
    rw [if_pos rfl]
    obtain ⟨z, h1, h2⟩ := pureOp_sound (norm_eq h).1 (hp rfl) hS
    unfold Oper.wp
    rw [h1]
    exact hK z w F (.refl w) (fun _ h => h) (fun _ h => .inl h) (.cnd _ _ _ (fun _ => h2) (fun h => by cases h))
  | false =>
    rw [if_neg (by simp)]
    exact hK _ w F (.refl w) (fun _ h => h) (fun _ h => .inl h) (.cnd _ _ _ (fun h => by cases h) (fun _ => rfl))

theorem Cell.ren1_id (x : Cell) : x.ren1 id = x := by cases x <;> rfl
theorem map_ren1_id (l : List Cell) : l.map (Cell.ren1 id) = l := by
  induction l with
  | nil => rfl
  | cons x l ih => rw [List.map_cons, ih, Cell.ren1_id]
theorem Cell.ren_id (x : Cell) : x.ren id = x := by
  cases x with
  | fn f first cap => simp only [Cell.ren, map_ren1_id]
  | _ => rfl
theorem map_ren_id (l : List Cell) : l.map (Cell.ren id) = l := by
  induction l with
  | nil => rfl
  | cons x l ih => rw [List.map_cons, ih, Cell.ren_id]
theorem Av.ren1_id (x : Av) : x.ren1 id = x := by
  cases x with
  | c x => simp only [Av.ren1, Cell.ren_id]
  | agg xs => simp only [Av.ren1, map_ren_id]
  | _ => rfl
theorem map_avren1_id (l : List Av) : l.map (Av.ren1 id) = l := by
  induction l with
  | nil => rfl
  | cons x l ih => rw [List.map_cons, ih, Av.ren1_id]
theorem Av.ren_id (x : Av) : x.ren id = x := by
  cases x with
  | tup xs => simp only [Av.ren, map_avren1_id]
  | c x => exact Av.ren1_id (.c x)
  | agg x => exact Av.ren1_id (.agg x)
  | ai k l => rfl
  | cnd g x => rfl

/-- A call that borrows nothing and makes no block of its caller's. -/
theorem opq_call0 {c : Call} {fo : Operand} {f : FuncId} {first cap : List Cell} {pf : List Prop} {xs : List Av} {res : Av} (hF : Ct P f xs [] res [] [])
    (hop : o.op = .call c) (hcv : c.callee = .value fo) (hfo : ox σ fo = (pf, .c (.fn (.func f) first cap)))
    (hp : AllP (pf ++ (oxs σ c.args.toList).1)) (hxs : first.map Av.c ++ (oxs σ c.args.toList).2 ++ cap.map Av.c = xs) (hok : (xs.all (Av.ok 0) && res.ok 0) = true) :
    ∀ β F a w, SRb E β F σ a w → ∀ (K : Act → World → Prop) (Q : Exit → Act → World → Prop),
    (∀ v w' F', Grow w w' → (∀ b, F b → F' b) → (∀ b, F' b → F b ∨ (w.heap.size ≤ b ∧ b < w'.heap.size)) → AvR β F' w' res v → K (a.put o.dst v) w') → o.wp P a w K Q := by
  intro β F a w hS K Q hK
  simp only [Bool.and_eq_true, List.all_eq_true] at hok
  have hfv := oxR hS fo
  rw [hfo] at hfv
  have hfv := hfv hp.left
  generalize hv : a.eval fo = fv at hfv
  cases hfv with | c hfv => cases hfv with | fn _ _ _ f1 c1 n1 n2 r1 r2 =>
  obtain ⟨l1, l2⟩ := oxs_R hS c.args.toList hp.right
  have hrun : (execOp a.eval o).run P w = .ok (.enter f (f1 ++ c.args.map a.eval ++ c1)) w := by
    simp only [execOp, hop, resolve, hcv, hv, Deferred.ofValue, Sem.run_bind, Sem.run_pure, Result.andThen_ok, invoke]
    exact run_callFunc hF.2.1
  unfold Oper.wp
  rw [hrun, Oper.upon_enter]
  have hargs : ∀ (i : Nat) (x : Av) (v : Value), xs[i]? = some x → (f1 ++ c.args.map a.eval ++ c1).toList[i]? = some v → AvR (fun _ => none) F w x v := by
    intro i y v hy hv
    have hy0 := hy
    rw [← hxs] at hy
    have key : AvR β F w y v := by
      simp only [Array.toList_append, List.append_assoc] at hv
      rw [List.append_assoc] at hy
      rcases Nat.lt_or_ge i first.length with h | h
      · rw [List.getElem?_append_left (by simpa using h)] at hy
        rw [List.getElem?_append_left (by simp [n1]; exact h)] at hv
        rw [List.getElem?_map, Option.map_eq_some_iff] at hy
        obtain ⟨x, hx, rfl⟩ := hy
        exact .c (r1 i x v hx (by simpa using hv))
      · rw [List.getElem?_append_right (by simpa using h)] at hy
        rw [List.getElem?_append_right (by simp [n1]; exact h)] at hv
        simp only [List.length_map, Array.length_toList, n1] at hy hv
        rcases Nat.lt_or_ge (i - first.length) c.args.toList.length with h' | h'
        · rw [List.getElem?_append_left (by rw [l1]; exact h')] at hy
          rw [List.getElem?_append_left (by simpa using h')] at hv
          exact l2 _ y v hy (by simpa using hv)
        · rw [List.getElem?_append_right (by rw [l1]; exact h')] at hy
          rw [List.getElem?_append_right (by simpa using h')] at hv
          rw [List.getElem?_map, Option.map_eq_some_iff] at hy
          obtain ⟨x, hx, rfl⟩ := hy
          refine .c (r2 _ x v hx ?_)
          simp only [l1] at hx
          simpa [l1] using hv
    have := AvR.ren (β := fun _ => none) (ρ := id) (n := 0) (fun i h => absurd h (Nat.not_lt_zero _)) key (hok.1 y (List.mem_of_getElem? hy0))
    rwa [Av.ren_id] at this
  have hlen : (f1 ++ c.args.map a.eval ++ c1).toList.length = xs.length := by
    rw [← hxs]
    simp [n1, n2, l1]
  have hcall := hF.2.2 w (fun _ => none) F (f1 ++ c.args.map a.eval ++ c1).toList hlen hargs (fun i b h => by simp at h) (fun i j g h => absurd h (Nat.not_lt_zero _)) (fun j g h => absurd h (Nat.not_lt_zero _)) (fun _ _ => rfl) (fun b hb => (hS.fr b hb).1)
  rw [Array.toArray_toList] at hcall
  refine hcall.mono fun e w' hq => ?_
  obtain ⟨v, β', F', rfl, hres, _, _, hout⟩ := hq
  have hg : Grow w w' := ⟨hout.keep.os, hout.keep.tape, hout.keep.output, hout.keep.size, fun k hk => hout.keep.block k hk (by rintro ⟨i, hi, _⟩; exact absurd hi (Nat.not_lt_zero _))⟩
  refine hK v w' (fun b => F b ∨ F' b) hg (fun b h => .inl h) (fun b hb => ?_) ?_
  · rcases hb with hb | hb
    · exact .inl hb
    · obtain ⟨a1, a2⟩ := hout.fr b hb
      rcases a2 with a2 | a2
      · exact .inl a2
      · exact .inr ⟨a2, a1⟩
  · have := AvR.ren (β := β) (ρ := id) (n := 0) (fun i h => absurd h (Nat.not_lt_zero _)) hres hok.2
    rw [Av.ren_id] at this
    exact this.mono (fun _ _ h => h) (fun b hb => ⟨.inr hb, rfl⟩) (fun _ _ h => h)

theorem opq_call {c : Call} {fo : Operand} {f : FuncId} {first cap : List Cell} {pf : List Prop} {xs : List Av} {res : Av} (hF : Ct P f xs [] res [] [])
    (hop : o.op = .call c) (hg : o.guard = none) (hcv : c.callee = .value fo) (hfo : ox σ fo = (pf, .c (.fn (.func f) first cap)))
    (hp : AllP (pf ++ (oxs σ c.args.toList).1)) (hxs : first.map Av.c ++ (oxs σ c.args.toList).2 ++ cap.map Av.c = xs) (hok : (xs.all (Av.ok 0) && res.ok 0) = true) : OpQ P E ops o σ res := by
  intro β F a w hS K Q hK
  rw [show Region.wanted o (yielded ops a.tmps) = true by simp [Region.wanted, hg], if_pos rfl]
  exact opq_call0 hF hop hcv hfo hp hxs hok β F a w hS K Q hK
theorem opq_callG {i : Nat} {b G : Bool} {c : Call} {fo : Operand} {f : FuncId} {first cap : List Cell} {pf : List Prop} {xs : List Av} {res : Av} (hg : o.guard = some (i, b)) (hG : guardC ops σ i b = some G)
    (hop : o.op = .call c) (hcv : c.callee = .value fo) (hfo : ox σ fo = (pf, .c (.fn (.func f) first cap)))
    (hF : G = true → Ct P f xs [] res [] [])
    (hp : G = true → AllP (pf ++ (oxs σ c.args.toList).1)) (hxs : first.map Av.c ++ (oxs σ c.args.toList).2 ++ cap.map Av.c = xs) (hok : (xs.all (Av.ok 0) && res.ok 0) = true) : OpQ P E ops o σ (.cnd G res) := by
  intro β F a w hS K Q hK
  have hw := guardB_wanted (o := o) (guardC_eq hG) hg hS
  rw [hw]
  cases G with
  | true =>
    rw [if_pos rfl]
    exact opq_call0 (hF rfl) hop hcv hfo (hp rfl) hxs hok β F a w hS K Q fun v w' F' g1 g2 g3 g4 => hK v w' F' g1 g2 g3 (.cnd _ _ _ (fun _ => g4) (fun h => by cases h))
  | false =>
    rw [if_neg (by simp)]
    exact hK _ w F (.refl w) (fun _ h => h) (fun _ h => .inl h) (.cnd _ _ _ (fun h => by cases h) (fun _ => rfl))

/-- The same in a region of one order. -/
theorem WL_q {rest : List Oper} {x : Av} (h : OpQ P E ops o σ x) (hd : dstOk E.n o.dst = true) (hk : WL P E ops Q rest (σ.put o.dst x)) : WL P E ops Q (o :: rest) σ := by
  intro a w hS
  obtain ⟨β, F, hS⟩ := hS
  have := h β F a w hS (wpList P ops Q rest) Q fun v w' F' g1 g2 g3 g4 => hk _ _ ⟨β, F', (hS.grown g1 g2 g3).put g4 (dstOk_lt hd)⟩
  unfold wpList
  split
  · rename_i hw; rw [if_pos hw] at this; exact .inl this
  · rename_i hw; rw [if_neg hw] at this; exact this
end
end Go.Sx

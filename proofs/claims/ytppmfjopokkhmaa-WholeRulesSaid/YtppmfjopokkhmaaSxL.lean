/-
  The walk's rules that turn memory: calls, new blocks, stores. No condition.
-/
import Derived.Test.YtppmfjopokkhmaaSxK
namespace Go.Sx
open Go
set_option linter.unusedVariables false

section
variable {P : Program} {E : Env} {ops : Array Oper} {Q : Exit → Act → World → Prop} {rest : List Oper} {o : Oper} {σ : St}

theorem run_callFunc {f : FuncId} {args : Array Value} {w : World} (h : ∃ fn, P.funcs[f]? = some fn ∧ (fn.name == "runtime.NumGoroutine") = false ∧ fn.body.isNone = false) : (callFunc f args).run P w = .ok (.enter f args) w := by
  obtain ⟨fn, h1, h2, h3⟩ := h
  simp only [callFunc, Sem.run_bind, run_program, Result.andThen_ok, h1]
  rw [if_neg (by simp [h2]), if_neg (by simp [h3])]
  rfl

/-- A call of function f, in the state in which the new blocks' numbers are free. -/
theorem s_call {c : Call} {fo : Operand} {f : FuncId} {first cap : List Cell} {pf : List Prop} {xs : List Av} {bor : List Blk} {res : Av} {bor' news : List Blk} (bs : List Nat) (hF : Ct P f xs bor res bor' news)
    (hop : o.op = .call c) (hg : o.guard = none) (hd : dstOk E.n o.dst = true) (hcv : c.callee = .value fo) (hfo : ox (σ.kills (newKeys o.dst news.length)) fo = (pf, .c (.fn (.func f) first cap)))
    (hp : AllP (pf ++ (oxs (σ.kills (newKeys o.dst news.length)) c.args.toList).1))
    (hC : CallOk (σ.kills (newKeys o.dst news.length)) (first.map Av.c ++ (oxs (σ.kills (newKeys o.dst news.length)) c.args.toList).2 ++ cap.map Av.c) xs bor res bor' news bs o.dst)
    (hk : WL P E ops Q rest ((afterCall (σ.kills (newKeys o.dst news.length)) bs o.dst bor' news).put o.dst (res.ren (crho bs o.dst news.length)))) : WL P E ops Q (o :: rest) σ := by
  intro a w hS
  refine wpList_plain hg fun K hK => ?_
  obtain ⟨β0, F, hS0⟩ := hS
  obtain ⟨β, hS, hnone⟩ := hS0.kills (newKeys o.dst news.length) (fun k hk => by
    obtain ⟨i, _, rfl⟩ := (mem_newKeys _ _).1 hk
    have := hS0.nbl
    simp only [nk]; omega)
  generalize σ.kills (newKeys o.dst news.length) = τ at *
  have hfv := oxR hS fo
  rw [hfo] at hfv
  have hfv := hfv hp.left
  generalize hv : a.eval fo = fv at hfv
  cases hfv with | c hfv => cases hfv with | fn _ _ _ f1 c1 n1 n2 r1 r2 =>
  obtain ⟨l1, l2⟩ := oxs_R hS c.args.toList hp.right
  have hrun : (execOp a.eval o).run P w = .ok (.enter f (f1 ++ c.args.map a.eval ++ c1)) w := by
    simp only [execOp, hop, resolve, hcv, hv, Deferred.ofValue, Sem.run_bind, Sem.run_pure, Result.andThen_ok, invoke]
    exact run_callFunc hF.2.1
  unfold Oper.wp
  rw [hrun, Oper.upon_enter]
  have hcore := call_core (vs := (f1 ++ c.args.map a.eval ++ c1).toList) hF hS (fun i => by
    rcases Nat.lt_or_ge i news.length with h | h
    · exact .inl (hnone _ (.inr ((mem_newKeys _ _).2 ⟨i, h, rfl⟩)))
    · exact .inr h) hC (by simp [n1, n2, l1]) (fun i y v hy hv => by
      simp only [Array.toList_append, List.append_assoc] at hv
      rw [List.append_assoc] at hy
      rcases Nat.lt_or_ge i first.length with h | h
      · rw [List.getElem?_append_left (by simpa using h)] at hy
        rw [List.getElem?_append_left (by simp [n1]; exact h)] at hv
        rw [List.getElem?_map, Option.map_eq_some_iff] at hy
        obtain ⟨x, hx, rfl⟩ := hy
        exact .c (r1 i x v hx (by simpa using hv))
      · rw [List.getElem?_append_right (by simpa using h)] at hy
        rw [List.getElem?_append_right (by simp [n1]; exact h)] at hv
        simp only [List.length_map, Array.length_toList, n1] at hy hv
        rcases Nat.lt_or_ge (i - first.length) c.args.toList.length with h' | h'
        · rw [List.getElem?_append_left (by rw [l1]; exact h')] at hy
          rw [List.getElem?_append_left (by simpa using h')] at hv
          exact l2 _ y v hy (by simpa using hv)
        · rw [List.getElem?_append_right (by rw [l1]; exact h')] at hy
          rw [List.getElem?_append_right (by simpa using h')] at hv
          rw [List.getElem?_map, Option.map_eq_some_iff] at hy
          obtain ⟨x, hx, rfl⟩ := hy
          refine .c (r2 _ x v hx ?_)
          simp only [l1] at hx
          simpa [l1] using hv)
  rw [Array.toArray_toList] at hcore
  refine hcore.mono fun e w' hq => ?_
  obtain ⟨v, rfl, β', F', hv', hS'⟩ := hq
  exact hK _ _ (hk _ _ ⟨β', F', hS'.put hv' (dstOk_lt hd)⟩)

/-! New blocks. -/

/-- The state with the number of a new block free. -/
def fresh (σ : St) (d : Option Nat) : St := σ.kill (nk d 0)

theorem SRb.fresh {β : Nat → Option Nat} {F : Nat → Prop} {a : Act} {w : World} (h : SRb E β F σ a w) (d : Option Nat) :
    ∃ β', SRb E β' F (fresh σ d) a w ∧ β' (nk d 0) = none ∧ E.nb ≤ nk d 0 ∧ (fresh σ d).hp (nk d 0) = .gone := by
  have hb : E.nb ≤ nk d 0 := by have := h.nbl; simp only [nk]; omega
  exact ⟨_, h.kill (nk d 0) hb, by simp, hb, by simp [Sx.fresh, St.kill]⟩

theorem row_alloc {w : World} (cur : Array Value) (t : TypeId) : Row (w.alloc (.cells cur t)) w.heap.size cur := ⟨t, (0, 0), heap_alloc_new w _, .inl rfl⟩

theorem newBlk {β : Nat → Option Nat} {F : Nat → Prop} {a : Act} {w : World} {j : Nat} (h : SRb E β F σ a w) (hj : β j = none) (hjb : E.nb ≤ j) (hgone : σ.hp j = .gone) {cur : Array Value} {t : TypeId} {cs : List Cell}
    (hsz : cur.size = cs.length) (hc : ∀ (i : Nat) (x : Cell) (v : Value), cs[i]? = some x → cur[i]? = some v → CellR β F w x v) :
    ∃ β', SRb E β' F (σ.seth j (.cells cs)) a (w.alloc (.cells cur t)) ∧ β' j = some w.heap.size := by
  have hβ : ∀ i g, β i = some g → (if i = j then some w.heap.size else β i) = some g := by
    intro i g hi
    rw [if_neg (by intro e; subst e; rw [hj] at hi; cases hi)]; exact hi
  have hs : ∀ k, k < w.heap.size → (w.alloc (.cells cur t)).heap[k]? = w.heap[k]? := fun k hk => RowKit.Below.heap_alloc w _ k hk
  obtain ⟨h1, h2⟩ := h.alloc hj hjb hgone (.cells cur t) (.cells cs) ⟨w.heap.size, cur, by simp, row_alloc cur t, hsz, fun i x v hx hv =>
    (hc i x v hx hv).mono hβ (fun b hb => ⟨hb, hs b (h.fr b hb).1⟩) (fun g n hc => hc.same (hs g hc.lt))⟩
  exact ⟨_, h1, by simp⟩

theorem newRow' {β : Nat → Option Nat} {F : Nat → Prop} {a : Act} {w : World} {j : Nat} (h : SRb E β F σ a w) (hj : β j = none) (hjb : E.nb ≤ j) (hgone : σ.hp j = .gone) {cur : Array Value} {t : TypeId} {d : Leaf} {vs : List Value}
    (hr : RC F w d vs) (hc : ∀ (i : Nat) (v : Value), vs[i]? = some v → cur[i]? = some v) :
    ∃ β', SRb E β' F (σ.seth j (.row d)) a (w.alloc (.cells cur t)) ∧ β' j = some w.heap.size := by
  have hs : ∀ k, k < w.heap.size → (w.alloc (.cells cur t)).heap[k]? = w.heap[k]? := fun k hk => RowKit.Below.heap_alloc w _ k hk
  obtain ⟨h1, h2⟩ := h.alloc hj hjb hgone (.cells cur t) (.row d) (blkR_row (vs := vs) (by simp) (row_alloc cur t) (hr.mono fun b hb => ⟨hb, hs b (h.fr b hb).1⟩) hc)
  exact ⟨_, h1, by simp⟩

/-- 'var x T', a struct: its zero cells. -/
theorem s_alloc {t : TypeId} {cs : List Cell} (hop : o.op = .alloc t) (hg : o.guard = none) (hd : dstOk E.n o.dst = true) (hz : zeroC P t = some cs) (hz0 : zeroOk P t)
    (hk : WL P E ops Q rest (((fresh σ o.dst).seth (nk o.dst 0) (.cells cs)).put o.dst (.c (.ptr (nk o.dst 0) 0)))) : WL P E ops Q (o :: rest) σ := by
  refine WL_step hg _ (fun a w hS => ?_) hk
  obtain ⟨β, F, hS⟩ := hS
  obtain ⟨β', hS', h1, h2, h3⟩ := hS.fresh o.dst
  obtain ⟨z, z1, z2, z3⟩ := zeroC_sound hz hz0 β' F w
  obtain ⟨β2, hS2, h4⟩ := newBlk (t := t) hS' h1 h2 h3 z2 z3
  refine ⟨.pointer (some ⟨w.heap.size, 0, none⟩), w.alloc (.cells z.cells t), ?_, β2, F, hS2.put (.c (.ptr _ _ _ h4)) (dstOk_lt hd)⟩
  simp [execOp, hop, Instr.alloc, z1, newVar, newRow]

/-- 'var x [n]T', T an integer kind. -/
theorem s_allocA {t : TypeId} (k : IntKind) (n : Nat) (hop : o.op = .alloc t) (hg : o.guard = none) (hd : dstOk E.n o.dst = true) (hz : (P.info? t).bind (·.zero) = some (.agg (List.replicate n (Value.int k 0)).toArray))
    (hk : WL P E ops Q rest (((fresh σ o.dst).seth (nk o.dst 0) (.row (.ints k (List.replicate n 0)))).put o.dst (.c (.ptr (nk o.dst 0) 0)))) : WL P E ops Q (o :: rest) σ := by
  refine WL_step hg _ (fun a w hS => ?_) hk
  obtain ⟨β, F, hS⟩ := hS
  obtain ⟨β', hS', h1, h2, h3⟩ := hS.fresh o.dst
  obtain ⟨i, hi, hz'⟩ := Option.bind_eq_some_iff.1 hz
  obtain ⟨β2, hS2, h4⟩ := newRow' (t := t) (cur := (List.replicate n (Value.int k 0)).toArray) (vs := List.replicate n (Value.int k 0)) (d := .ints k (List.replicate n 0)) hS' h1 h2 h3 (by simp [RC]) (fun i v hv => by rw [List.getElem?_toArray]; exact hv)
  refine ⟨.pointer (some ⟨w.heap.size, 0, none⟩), w.alloc (.cells (List.replicate n (Value.int k 0)).toArray t), ?_, β2, F, hS2.put (.c (.ptr _ _ _ h4)) (dstOk_lt hd)⟩
  simp [execOp, hop, Instr.alloc, zeroValue, typeInfo, hi, hz', newVar, newRow, Value.cells]

/-- A value boxed: a struct, a captured variable. -/
theorem s_box {t : TypeId} {x : Operand} {ps : List Prop} {y : Av} {cs : List Cell} (hop : o.op = .box t x) (hg : o.guard = none) (hd : dstOk E.n o.dst = true) (hx : ox (fresh σ o.dst) x = (ps, y)) (hp : AllP ps) (hcs : cellsA y = some cs) (hu : isUn y = false)
    (hk : WL P E ops Q rest (((fresh σ o.dst).seth (nk o.dst 0) (.cells cs)).put o.dst (.c (.ptr (nk o.dst 0) 0)))) : WL P E ops Q (o :: rest) σ := by
  refine WL_step hg _ (fun a w hS => ?_) hk
  obtain ⟨β, F, hS⟩ := hS
  obtain ⟨β', hS', h1, h2, h3⟩ := hS.fresh o.dst
  have hv := oxR hS' x
  rw [hx] at hv
  obtain ⟨k1, k2⟩ := cellsA_R (hv hp) hcs (by intro h; subst h; simp [isUn] at hu)
  obtain ⟨β2, hS2, h4⟩ := newBlk (t := t) hS' h1 h2 h3 k1 k2
  refine ⟨.pointer (some ⟨w.heap.size, 0, none⟩), w.alloc (.cells (a.eval x).cells t), ?_, β2, F, hS2.put (.c (.ptr _ _ _ h4)) (dstOk_lt hd)⟩
  simp [execOp, hop, Instr.box, newVar, newRow]

/-- An array of numbers boxed. -/
theorem s_boxA {t : TypeId} {x : Operand} {ps : List Prop} {k : IntKind} {l : List Int} (hop : o.op = .box t x) (hg : o.guard = none) (hd : dstOk E.n o.dst = true) (hx : ox (fresh σ o.dst) x = (ps, .ai k l)) (hp : AllP ps)
    (hk : WL P E ops Q rest (((fresh σ o.dst).seth (nk o.dst 0) (.row (.ints k l))).put o.dst (.c (.ptr (nk o.dst 0) 0)))) : WL P E ops Q (o :: rest) σ := by
  refine WL_step hg _ (fun a w hS => ?_) hk
  obtain ⟨β, F, hS⟩ := hS
  obtain ⟨β', hS', h1, h2, h3⟩ := hS.fresh o.dst
  have hv := oxR hS' x
  rw [hx] at hv
  have hv := hv hp
  generalize he : a.eval x = v at hv
  dsimp only at hv
  cases hv with | ai =>
  obtain ⟨β2, hS2, h4⟩ := newRow' (t := t) (cur := (l.map (Value.int k)).toArray) (vs := l.map (Value.int k)) (d := .ints k l) hS' h1 h2 h3 rfl (fun i v hv => by simpa using hv)
  refine ⟨.pointer (some ⟨w.heap.size, 0, none⟩), w.alloc (.cells (l.map (Value.int k)).toArray t), ?_, β2, F, hS2.put (.c (.ptr _ _ _ h4)) (dstOk_lt hd)⟩
  simp [execOp, hop, he, Instr.box, newVar, newRow, Value.cells]
end

end Go.Sx

/-
  The walk's rules for append and for slices written out. No condition.
-/
import Derived.Test.YtppmfjopokkhmaaSxM
namespace Go.Sx
open Go
set_option linter.unusedVariables false

/-- A world that has grown: block g is new, and is number j's. -/
theorem SRb.grow {E : Env} {β : Nat → Option Nat} {F : Nat → Prop} {σ : St} {a : Act} {w w' : World} (h : SRb E β F σ a w) {j g : Nat} (hj : β j = none) (hjb : E.nb ≤ j) (hgone : σ.hp j = .gone)
    (hg : w.grownBy w' none) (h1 : w.heap.size ≤ g) (h2 : g < w'.heap.size) (blk : Blk) (hblk : BlkR (fun i => if i = j then some g else β i) F w' j blk) :
    SRb E (fun i => if i = j then some g else β i) F (σ.seth j blk) a w' := by
  have hβ : ∀ i g', β i = some g' → (if i = j then some g else β i) = some g' := by
    intro i g' hi
    rw [if_neg (by intro e; subst e; rw [hj] at hi; cases hi)]; exact hi
  have hs : ∀ k, k < w.heap.size → w'.heap[k]? = w.heap[k]? := fun k hk => hg.block k hk (by simp)
  have hF : ∀ b, F b → w'.heap[b]? = w.heap[b]? := fun b hb => hs b (h.fr b hb).1
  have hC : ∀ g n, CapOk w g n → CapOk w' g n := fun g n hc => hc.same (hs g hc.lt)
  have hA : ∀ {x : Av} {v : Value}, AvR β F w x v → AvR (fun i => if i = j then some g else β i) F w' x v := fun hx => hx.mono hβ (fun b hb => ⟨hb, hF b hb⟩) hC
  refine ⟨fun i => hA (h.tm i), h.sz, h.df, fun i => ?_, fun i k g' hi hk e1 e2 => ?_, fun i g' hi e => ?_, fun i g' e => ?_, fun b hb => ?_, ?_, fun i hi => by rw [if_neg (by omega)]; exact h.bb i hi, h.nbl⟩
  · by_cases hij : i = j
    · subst hij; simpa [St.seth] using hblk
    · simp only [St.seth, hij, if_false]
      exact (h.hp i).mono hβ (by simp [hij]) hF hC (fun g' hg' => hs g' (h.lt i g' hg'))
  · by_cases hij : i = j
    · by_cases hkj : k = j
      · rw [hij, hkj]
      · simp only [hij, if_true, Option.some.injEq] at e1
        simp only [hkj, if_false] at e2
        have := h.lt k g' e2
        omega
    · by_cases hkj : k = j
      · simp only [hij, if_false] at e1
        simp only [hkj, if_true, Option.some.injEq] at e2
        have := h.lt i g' e1
        omega
      · simp only [hij, if_false] at e1
        simp only [hkj, if_false] at e2
        simp only [St.seth, hij, hkj, if_false] at hi hk
        exact h.inj i k g' hi hk e1 e2
  · by_cases hij : i = j
    · simp only [hij, if_true, Option.some.injEq] at e
      subst e
      refine ⟨h2, .inl (Nat.le_trans h.keep.size h1), fun hf => ?_⟩
      have := (h.fr _ hf).1
      omega
    · simp only [hij, if_false] at e
      simp only [St.seth, hij, if_false] at hi
      obtain ⟨a1, a2, a3⟩ := h.own i g' hi e
      exact ⟨Nat.lt_of_lt_of_le a1 hg.size, a2, a3⟩
  · by_cases hij : i = j
    · simp only [hij, if_true, Option.some.injEq] at e
      subst e; exact h2
    · simp only [hij, if_false] at e
      exact Nat.lt_of_lt_of_le (h.lt i g' e) hg.size
  · obtain ⟨a1, a2⟩ := h.fr b hb
    exact ⟨Nat.lt_of_lt_of_le a1 hg.size, a2⟩
  · exact ⟨hg.os.trans h.keep.os, hg.tape.trans h.keep.tape, hg.output.trans h.keep.output, Nat.le_trans h.keep.size hg.size, fun k hk hm => (hs k (Nat.lt_of_lt_of_le hk h.keep.size)).trans (h.keep.block k hk hm), fun g n hc => hC g n (h.keep.cap g n hc)⟩

/-- All ways to block j forgotten, but not what it holds. -/
theorem SRb.forget {E : Env} {β : Nat → Option Nat} {F : Nat → Prop} {σ : St} {a : Act} {w : World} (h : SRb E β F σ a w) (j : Nat) {blk : Blk} (hj : σ.hp j = blk) (hk : blk.kill j = blk) : SRb E β F ((σ.kill j).seth j blk) a w := by
  have hβ : ∀ i, i ≠ j → β i = β i := fun i hi => rfl
  have hne : ∀ i, ((σ.kill j).seth j blk).hp i ≠ .gone → σ.hp i ≠ .gone := by
    intro i hi
    by_cases hij : i = j
    · subst hij; rw [hj]; simpa [St.seth] using hi
    · simp only [St.seth, St.kill, hij, decide_false, if_false] at hi
      exact Blk.kill_ne hi
  refine ⟨fun i => (h.tm i).kill hβ, h.sz, h.df, fun i => ?_, fun i k g hi hk e1 e2 => h.inj i k g (hne i hi) (hne k hk) e1 e2, fun i g hi e => h.own i g (hne i hi) e, h.lt, h.fr, h.keep, h.bb, h.nbl⟩
  by_cases hij : i = j
  · subst hij
    have := h.hp i
    rw [hj] at this
    simpa [St.seth] using this
  · simp only [St.seth, St.kill, hij, decide_false, if_false]
    exact (h.hp i).kill hβ hij

/-- The data that a slice operand leads to. -/
def srcP (σ : St) : List Prop × Av → Option (List Prop × Leaf)
  | (p, .c (.lf (.ints k l))) => some (p, .ints k l)
  | (p, .c (.lf (.recs sz l))) => some (p ++ [sz ≠ 0], .recs sz l)
  | (p, .c (.own j sz off len)) =>
    match σ.hp j with
    | .row (.ints k l) =>
      match off with
      | 0 => some (p ++ [sz = 1, len ≤ l.length], .ints k (l.take len))
      | off => some (p ++ [sz = 1, off + len ≤ l.length], .ints k ((l.drop off).take len))
    | .row (.recs sz' l) => some (p ++ [sz = sz', sz ≠ 0, off = 0, len ≤ l.length], .recs sz' (l.take len))
    | _ => none
  | _ => none

theorem row_fit {w : World} {F : Nat → Prop} {d : Leaf} {vs : List Value} {cur : Array Value} (hr : RC F w d vs) (hc : ∀ (i : Nat) (v : Value), vs[i]? = some v → cur[i]? = some v) : vs.length ≤ cur.size := by
  rcases Nat.lt_or_ge cur.size vs.length with h | h
  · have := hc cur.size vs[cur.size] (by simp [h])
    simp at this
  · exact h

theorem srcP_sound {E : Env} {σ : St} {β : Nat → Option Nat} {F : Nat → Prop} {a : Act} {w : World} {x : List Prop × Av} {ps : List Prop} {d : Leaf} {v : Value} (hS : SRb E β F σ a w) (h : srcP σ x = some (ps, d)) (hp : AllP ps) (hx : AllP x.1 → AvR β F w x.2 v) :
    ∃ ad m c vs, v = .slice ad m c ∧ m = lenD d ∧ m ≤ c ∧ RC F w d vs ∧ (vs ≠ [] → ∃ b o, ad = some ⟨b, o, none⟩ ∧ ∀ (i : Nat) (u : Value), vs[i]? = some u → w.cell? ⟨b, o + i, none⟩ = some u) := by
  obtain ⟨p, x⟩ := x
  have own : ∀ {j sz off len : Nat} {d0 : Leaf}, σ.hp j = .row d0 → szD d0 = sz → sz ≠ 0 → off + len * sz ≤ lenD d0 * sz → AvR β F w (.c (.own j sz off len)) v → ∀ {q : Nat}, off = q * sz →
      ∃ ad m c vs, v = .slice ad m c ∧ m = lenD (takeD len (dropD q d0)) ∧ m ≤ c ∧ RC F w (takeD len (dropD q d0)) vs ∧ (vs ≠ [] → ∃ b o, ad = some ⟨b, o, none⟩ ∧ ∀ (i : Nat) (u : Value), vs[i]? = some u → w.cell? ⟨b, o + i, none⟩ = some u) := by
    intro j sz off len d0 hb hsz hsz0 hle hv q hq
    have hpos : 0 < sz := Nat.pos_of_ne_zero hsz0
    have hB := hS.hp j
    rw [hb] at hB
    cases hv with | c hv => cases hv with | own _ _ _ _ ad c hc hm hh =>
    have hszs : ∀ n, szD (takeD n (dropD q d0)) = szD d0 := by intro n; cases d0 <;> rfl
    have hszq : szD (dropD q d0) = szD d0 := by cases d0 <;> rfl
    have hll : len ≤ lenD (dropD q d0) := by
      have h1 : q * sz + len * sz ≤ lenD d0 * sz := by rw [← hq]; exact hle
      rw [← Nat.add_mul] at h1
      have h2 := Nat.le_of_mul_le_mul_right h1 hpos
      cases d0 <;> simp only [lenD, dropD, List.length_drop] at h2 ⊢ <;> (try omega)
      all_goals (simp [szD] at hsz; omega)
    have hlen : len = lenD (takeD len (dropD q d0)) := by
      cases d0 <;> simp only [lenD, dropD, takeD, List.length_drop, List.length_take] at hll ⊢ <;> omega
    rcases hh with rfl | ⟨g, hg, rfl, cur, hrow, hcap⟩
    · have h0 : len = 0 := by omega
      subst h0
      -- nothing
      have : ∃ vs0, RC F w d0 vs0 ∨ True := ⟨[], .inr trivial⟩
      refine ⟨ad, 0, 0, [], rfl, hlen, Nat.le_refl _, ?_, fun h => absurd rfl h⟩
      cases d0 with
      | ints k l => simp [RC, takeD, dropD]
      | recs s l => exact ⟨by simp, fun r hr => by simp at hr, fun i r k x hi => by simp at hi⟩
      | v => simp [szD] at hsz; omega
      | obj => simp [szD] at hsz; omega
    · obtain ⟨vs, hr, hvs⟩ := rowR_cells hg hrow hB
      have hr2 := (hr.drop q).take len
      refine ⟨_, len, c, _, rfl, hlen, hc, hr2, fun hne => ⟨g, off, rfl, fun i u hu => ?_⟩⟩
      rw [List.getElem?_take] at hu
      split at hu
      · rw [List.getElem?_drop] at hu
        rw [hrow.cell, hq, ← hsz]
        exact hvs _ u hu
      · cases hu
  unfold srcP at h
  split at h
  · rename_i h1
    simp only [Prod.mk.injEq] at h1; obtain ⟨rfl, rfl⟩ := h1
    simp only [Option.some.injEq, Prod.mk.injEq] at h; obtain ⟨rfl, rfl⟩ := h
    have hv := hx hp
    cases hv with | c hv => cases hv with | lf hv =>
    have hv' := hv
    cases hv with | ints _ _ ad n c hn hc hm hh =>
    obtain ⟨e1, e2, e3, vs, e4, e5⟩ := hv'.cells (by simp [szD])
    exact ⟨ad, n, c, vs, rfl, e1, e2, e4, fun hne => let ⟨b, o, h1, h2, h3⟩ := e5 hne; ⟨b, o, h1, h3⟩⟩
  · rename_i h1
    simp only [Prod.mk.injEq] at h1; obtain ⟨rfl, rfl⟩ := h1
    simp only [Option.some.injEq, Prod.mk.injEq] at h; obtain ⟨rfl, rfl⟩ := h
    have hv := hx hp.left
    cases hv with | c hv => cases hv with | lf hv =>
    have hv' := hv
    cases hv with | recs _ _ ad n c vv hn hc hm hh =>
    obtain ⟨e1, e2, e3, vs, e4, e5⟩ := hv'.cells hp.right
    exact ⟨ad, n, c, vs, rfl, e1, e2, e4, fun hne => let ⟨b, o, h1, h2, h3⟩ := e5 hne; ⟨b, o, h1, h3⟩⟩
  · rename_i j sz off len h1
    simp only [Prod.mk.injEq] at h1; obtain ⟨rfl, rfl⟩ := h1
    split at h
    · rename_i k l hb
      split at h
      · simp only [Option.some.injEq, Prod.mk.injEq] at h; obtain ⟨rfl, rfl⟩ := h
        obtain ⟨c1, c2⟩ := hp.right
        subst c1
        have c2' : len ≤ l.length := c2
        have := own (sz := 1) hb rfl (by decide) (by simp [lenD]; omega) (hx hp.left) (q := 0) (by omega)
        simpa [dropD, takeD] using this
      · simp only [Option.some.injEq, Prod.mk.injEq] at h; obtain ⟨rfl, rfl⟩ := h
        obtain ⟨c1, c2⟩ := hp.right
        subst c1
        have c2' : off + len ≤ l.length := c2
        exact own (sz := 1) hb rfl (by decide) (by simp [lenD]; omega) (hx hp.left) (q := off) (by omega)
    · rename_i sz' l hb
      simp only [Option.some.injEq, Prod.mk.injEq] at h; obtain ⟨rfl, rfl⟩ := h
      obtain ⟨c1, c2, c3, c4⟩ := hp.right
      subst c1; subst c3
      have c4' : len ≤ l.length := c4
      have := own hb rfl c2 (by simp only [lenD, Nat.zero_add]; exact Nat.mul_le_mul_right _ c4') (hx hp.left) (q := 0) (by omega)
      simpa [dropD, takeD] using this
    · cases h
  · cases h

section
variable {P : Program} {E : Env} {ops : Array Oper} {Q : Exit → Act → World → Prop} {rest : List Oper} {o : Oper} {σ : St}

theorem run_append_call {x y : Operand} {t t' : TypeId} {c : Call} {a : Act} {w : World} {v : Value} {w' : World} (hop : o.op = .call c) (hc : c.callee = .builtin .append) (ha : c.args = #[x, y]) (ht : c.argTypes = #[t, t'])
    (h : (Builtin.append_ #[t, t'] o.type #[a.eval x, a.eval y]).run P w = .ok v w') : (execOp a.eval o).run P w = .ok (.value v) w' := by
  simp only [execOp, hop, resolve, hc, ha, ht, Sem.run_bind, Sem.run_pure, Result.andThen_ok, invoke, builtin]
  simp only [List.map_toArray, List.map_cons, List.map_nil, h, Result.andThen_ok]

/-- 's = append(s, more...)', s a row of the call's own. -/
theorem s_append {t e : TypeId} {sz by_ : Nat} {c : Call} {x y : Operand} {px qs : List Prop} {j len : Nat} {d d2 d' : Leaf} (hop : o.op = .call c) (hc : c.callee = .builtin .append) (ha : c.args.toList = [x, y]) (hty : c.argTypes.toList = [t, t]) (hg : o.guard = none) (hd : dstOk E.n o.dst = true)
    (hE : Elt P t e sz by_) (hx : ox σ x = (px, .c (.own j sz 0 len))) (hb : σ.hp j = .row d) (hj64 : Nat.ble 64 j = true) (hy : srcP σ (ox σ y) = some (qs, d2)) (hp : AllP (px ++ qs)) (hdd : appD (takeD len d) d2 = some d') (hszd : szD d = sz ∧ sz ≠ 0 ∧ len ≤ lenD d)
    (hlim : len + lenD d2 ≤ 4294967296 ∧ by_ ≤ 4096)
    (hk : WL P E ops Q rest (((σ.kill j).seth j (.row d')).put o.dst (.c (.own j sz 0 (len + lenD d2))))) : WL P E ops Q (o :: rest) σ := by
  refine WL_step hg _ (fun a w hS => ?_) hk
  obtain ⟨β, F, hS⟩ := hS
  have hv1 := oxR hS x
  rw [hx] at hv1
  have hv1 := hv1 hp.left
  obtain ⟨ad, m, cs, news, hv2, hm, hmc, hr2, hcell⟩ := srcP_sound hS hy hp.right (oxR hS y)
  have hca : c.args = #[x, y] := by apply Array.toList_inj.1; simpa using ha
  have hct : c.argTypes = #[t, t] := by apply Array.toList_inj.1; simpa using hty
  generalize he1 : a.eval x = v1 at hv1
  dsimp only at hv1
  cases hv1 with | c hv1 => cases hv1 with | own _ _ _ _ ao cap hlc hmx hh =>
  obtain ⟨hs1, hs2, hs3⟩ := hszd
  obtain ⟨hl1, hl2⟩ := hlim
  have hpos : 0 < sz := Nat.pos_of_ne_zero hs2
  obtain ⟨ht, i, z, hi, hz, hsz, hby, hzs⟩ := hE
  have hjn : E.nb ≤ j := by have := hS.nbl; have : 64 ≤ j := by simpa using hj64
                            omega
  have hgone : σ.hp j ≠ .gone := by rw [hb]; intro h; cases h
  have hB := hS.hp j
  rw [hb] at hB
  have hsz2 : szD d2 = sz := by
    have : szD (takeD len d) = szD d := by cases d <;> rfl
    cases d <;> cases d2 <;> simp only [takeD, appD] at hdd <;> (try cases hdd)
    · simp only [szD] at hs1 ⊢; exact hs1
    · split at hdd
      · rename_i hk'; simp only [decide_eq_true_eq] at hk'; simp only [szD] at hs1 ⊢; omega
      · cases hdd
  have hnl : news.length = m * sz := by rw [hr2.length, hm, hsz2]
  have hbytes : (len + m) * by_ ≤ 140737488355328 := by
    have : (len + m) * by_ ≤ 4294967296 * 4096 := Nat.mul_le_mul (by omega) hl2
    omega
  have h63 : len + m ≤ maxLen := by simp only [maxLen]; omega
  -- the old cells
  have hold : ∃ olds, RC F w (takeD len d) olds ∧ olds.length = len * sz ∧ ∀ g cur, β j = some g → Row w g cur → ∀ (i : Nat) (v : Value), olds[i]? = some v → cur[i]? = some v := by
    by_cases hβ : ∃ g cur, β j = some g ∧ Row w g cur
    · obtain ⟨g, cur, hg', hrow⟩ := hβ
      obtain ⟨vs, h1, h2⟩ := rowR_cells hg' hrow hB
      have ht' := h1.take len
      refine ⟨_, ht', ?_, fun g2 cur2 e1 e2 i v hv => ?_⟩
      · rw [ht'.length]
        have h3 : szD (takeD len d) = szD d := by cases d <;> rfl
        have h4 : lenD (takeD len d) = len := by cases d <;> simp only [lenD, takeD, List.length_take] at hs3 ⊢ <;> (try omega)
        rw [h3, h4, hs1]
      · rw [hg'] at e1
        obtain rfl := Option.some.inj e1
        have : cur2 = cur := by
          obtain ⟨t1, f1, k1, _⟩ := e2
          obtain ⟨t2, f2, k2, _⟩ := hrow
          rw [k1] at k2
          simp only [Option.some.injEq, Obj.cells.injEq] at k2
          exact k2.1
        subst this
        rw [List.getElem?_take] at hv
        split at hv
        · exact h2 i v hv
        · cases hv
    · have hl0 : len = 0 := by
        cases d with
        | ints k l =>
          rcases hB with ⟨h, _⟩ | ⟨g, cur, h1, h2, _⟩
          · subst h; simpa [lenD] using hs3
          · exact absurd ⟨g, cur, h1, h2⟩ hβ
        | recs s l =>
          rcases hB.2 with ⟨h, _⟩ | ⟨g, cur, h1, h2, _⟩
          · subst h; simpa [lenD] using hs3
          · exact absurd ⟨g, cur, h1, h2⟩ hβ
        | v => exact hB.elim
        | obj => exact hB.elim
      subst hl0
      refine ⟨[], ?_, by simp, fun g cur h1 h2 => absurd ⟨g, cur, h1, h2⟩ hβ⟩
      cases d with
      | ints k l => simp [RC, takeD]
      | recs s l => exact ⟨by simp, fun r hr => by simp at hr, fun i r k x hi => by simp at hi⟩
      | v => exact hB.elim
      | obj => exact hB.elim
  obtain ⟨olds, ho1, ho2, ho3⟩ := hold
  have hnone : ad = none → m = 0 := fun h => by
    rcases Nat.eq_zero_or_pos m with h0 | h0
    · exact h0
    · have hne : news ≠ [] := by
        intro h'
        rw [h'] at hnl
        have := Nat.mul_pos h0 hpos
        simp at hnl; omega
      obtain ⟨b, o', h1, _⟩ := hcell hne
      rw [h] at h1; cases h1
  by_cases hroom : len + m ≤ cap
  · -- there is room
    rcases hh with rfl | ⟨g, hgj, rfl, hcap⟩
    · -- nothing at all
      have hl0 : len = 0 := by omega
      have hm0 : m = 0 := by omega
      subst hl0
      have hn0 : news = [] := List.eq_nil_of_length_eq_zero (by rw [hnl, hm0]; simp)
      have hrun : (Builtin.append_ #[t, t] o.type #[.slice ao 0 0, .slice ad m cs]).run P w = .ok (.slice ao 0 0) w := by
        subst hm0
        have hfc : (Builtin.firstCells sz 0 (.slice ad 0 cs)).run P w = .ok #[] w := by
          cases ad with
          | none => simp [Builtin.firstCells]
          | some b => simp [Builtin.firstCells, loadCells, loadCellsFrom]
        cases ao with
        | none => simp [Builtin.append_, run_underlying ht, sizeOf, typeInfo, hi, hsz, Builtin.lenOf, hfc]
        | some b => simp [Builtin.append_, run_underlying ht, sizeOf, typeInfo, hi, hsz, Builtin.lenOf, hfc, storeCells]
      refine ⟨_, w, run_append_call hop hc hca hct (by rw [he1, hv2]; exact hrun), β, F, ?_⟩
      have hlen' : lenD d' = 0 := by
        obtain ⟨_, h2, _⟩ := ho1.app hr2 hdd
        have h4 : lenD (takeD 0 d) = 0 := by cases d <;> simp [lenD, takeD]
        omega
      have hblk : BlkR β F w j (.row d') := by
        obtain ⟨hr', h2, h3, _⟩ := ho1.app hr2 hdd
        cases d' with
        | ints k l =>
          refine .inl ⟨List.eq_nil_of_length_eq_zero hlen', fun g hg' => ?_⟩
          cases d with
          | ints k2 l2 =>
            rcases hB with ⟨_, h⟩ | ⟨g2, cur, h1, h2', _⟩
            · exact h g hg'
            · rw [hg'] at h1; obtain rfl := Option.some.inj h1; exact ⟨cur, h2', Nat.zero_le _⟩
          | recs s2 l2 =>
            rcases hB.2 with ⟨_, h⟩ | ⟨g2, cur, h1, h2', _⟩
            · exact h g hg'
            · rw [hg'] at h1; obtain rfl := Option.some.inj h1; exact ⟨cur, h2', Nat.zero_le _⟩
          | v => exact hB.elim
          | obj => exact hB.elim
        | recs s l =>
          have hl : l = [] := List.eq_nil_of_length_eq_zero hlen'
          subst hl
          refine ⟨fun r hr => by simp at hr, .inl ⟨rfl, fun g hg' => ?_⟩⟩
          cases d with
          | ints k2 l2 =>
            rcases hB with ⟨_, h⟩ | ⟨g2, cur, h1, h2', _⟩
            · exact h g hg'
            · rw [hg'] at h1; obtain rfl := Option.some.inj h1; exact ⟨cur, h2', Nat.zero_le _⟩
          | recs s2 l2 =>
            rcases hB.2 with ⟨_, h⟩ | ⟨g2, cur, h1, h2', _⟩
            · exact h g hg'
            · rw [hg'] at h1; obtain rfl := Option.some.inj h1; exact ⟨cur, h2', Nat.zero_le _⟩
          | v => exact hB.elim
          | obj => exact hB.elim
        | v => exact hr'.elim
        | obj => exact hr'.elim
      have hS2 : SRb E β F (σ.seth j (.row d')) a w := by
        have hne : ∀ i, (σ.seth j (.row d')).hp i ≠ .gone → σ.hp i ≠ .gone := by
          intro i hi'
          by_cases e' : i = j
          · rw [e']; exact hgone
          · simpa [St.seth, e'] using hi'
        refine ⟨hS.tm, hS.sz, hS.df, fun i => ?_, fun i k g hi' hk' e1 e2 => hS.inj i k g (hne i hi') (hne k hk') e1 e2, fun i g hi' e1 => hS.own i g (hne i hi') e1, hS.lt, hS.fr, hS.keep, hS.bb, hS.nbl⟩
        by_cases e' : i = j
        · subst e'; simpa [St.seth] using hblk
        · simp only [St.seth, e', if_false]; exact hS.hp i
      have hS3 := hS2.forget j (blk := .row d') (by simp [St.seth]) rfl
      have e3 : ((σ.seth j (.row d')).kill j).seth j (.row d') = (σ.kill j).seth j (.row d') := by
        simp only [St.seth, St.kill, St.mk.injEq]
        refine ⟨trivial, funext fun i => ?_⟩
        by_cases e' : i = j <;> simp [e']
      rw [e3] at hS3
      refine hS3.put (.c ?_) (dstOk_lt hd)
      rw [← hm, hm0]
      exact .own _ _ _ _ _ _ (by omega) (by omega) (.inl rfl)
    · -- in place
      obtain ⟨cur, hrow, hcap⟩ := hcap
      have hcur := ho3 g cur hgj hrow
      obtain ⟨_, _, hnF⟩ := hS.own j g hgone hgj
      have hle : len * sz + news.length ≤ cur.size := by
        rw [hnl, ← Nat.add_mul]
        exact Nat.le_trans (Nat.mul_le_mul_right _ hroom) (by omega)
      obtain ⟨w', r1, r2⟩ := run_storeCells' (P := P) (g := g) (off := len * sz) news 0 w cur hr2.one hrow (by omega)
      simp only [Nat.add_zero] at r2
      have hls := size_lay hle
      have hfc : (Builtin.firstCells sz m (.slice ad m cs)).run P w = .ok news.toArray w := by
        cases had : ad with
        | none =>
          have := hnone had
          subst this
          have : news = [] := List.eq_nil_of_length_eq_zero (by rw [hnl]; simp)
          subst this
          simp [Builtin.firstCells]
        | some b =>
          by_cases hne : news = []
          · have : m * sz = 0 := by rw [← hnl, hne]; rfl
            subst hne
            simp [Builtin.firstCells, this, loadCells, loadCellsFrom]
          · obtain ⟨b', o', h1, h2⟩ := hcell hne
            rw [had] at h1
            obtain rfl := Option.some.inj h1
            simp only [Builtin.firstCells]
            exact loadCells_row h2 hnl.symm
      have hrun : (Builtin.append_ #[t, t] o.type #[.slice (some ⟨g, 0, none⟩) len cap, .slice ad m cs]).run P w = .ok (.slice (some ⟨g, 0, none⟩) (len + m) cap) w' := by
        simp [Builtin.append_, run_underlying ht, sizeOf, typeInfo, hi, hsz, Builtin.lenOf, hroom, hfc, add_none, r1]
      refine ⟨_, w', run_append_call hop hc hca hct (by rw [he1, hv2]; exact hrun), β, F, ?_⟩
      obtain ⟨hr', _, _, _⟩ := ho1.app hr2 hdd
      have hS2 := (hS.written hgone hgj hrow r2 hls (blk := .row d') (blkR_row hgj r2.row (r2.leafs hnF hr') (fun i v hv => by
        rw [get_lay hle]
        rw [List.getElem?_append, ho2] at hv
        by_cases h1 : i < len * sz
        · rw [if_pos h1] at hv ⊢
          exact hcur i v hv
        · rw [if_neg h1] at hv ⊢
          have := (List.getElem?_eq_some_iff.1 hv).1
          rw [if_pos (by omega)]
          exact hv))).1
      have hS3 := hS2.forget j (blk := .row d') (by simp [St.seth]) rfl
      have e3 : ((σ.seth j (.row d')).kill j).seth j (.row d') = (σ.kill j).seth j (.row d') := by
        simp only [St.seth, St.kill, St.mk.injEq]
        refine ⟨trivial, funext fun i => ?_⟩
        by_cases e' : i = j <;> simp [e']
      rw [e3] at hS3
      refine hS3.put (.c ?_) (dstOk_lt hd)
      rw [← hm]
      exact .own _ _ _ _ _ _ hroom hmx (.inr ⟨g, hgj, rfl, _, r2.row, by rw [hls]; exact hcap⟩)
  · -- a new array
    have hmpos : 0 < m := by omega
    have hne : news ≠ [] := by
      intro h'
      rw [h'] at hnl
      have := Nat.mul_pos hmpos hpos
      simp at hnl; omega
    obtain ⟨b, o', hb0, hcell2⟩ := hcell hne
    subst hb0
    have hgrow : ∃ v' w', (Builtin.append_ #[t, t] o.type #[.slice ao len cap, .slice (some ⟨b, o', none⟩) m cs]).run P w = .ok v' w' ∧ w'.ownsRow w.heap.size e sz v' (len + m) (olds ++ news) ∧ w.grownBy w' none := by
      have hcell' : ∀ (k : Nat) (u : Value), news[k]? = some u → w.cell? ((⟨b, o', none⟩ : Addr).add k) = some u := fun k u hu => by rw [add_none]; exact hcell2 k u hu
      cases ao with
      | none =>
        have hc0 : cap = 0 := by
          rcases hh with h | ⟨g, _, h, _⟩
          · exact h
          · cases h
        have hl0 : len = 0 := by omega
        subst hc0; subst hl0
        have : olds = [] := List.eq_nil_of_length_eq_zero (by rw [ho2]; simp)
        subst this
        obtain ⟨v', w', h1, h2, h3, _⟩ := run_append_own (P := P) w w.heap.size t o.type e i z sz by_ ht hi hz hsz hby hzs hpos (.slice none 0 0) 0 [] (World.ownsRow_nil w _ e sz) ⟨b, o', none⟩ m cs news hnl hcell' hr2.one (by omega) hbytes (Nat.le_refl _)
        exact ⟨v', w', h1, h2, h3⟩
      | some b2 =>
        exact run_append_arg_grows (P := P) w t o.type e i z sz by_ ht hi hz hsz hby hzs hpos b2 len cap olds ho2 (fun k u hu => by
          rcases hh with rfl | ⟨g, hgj, h, cur, hrow, hcap⟩
          · have : len = 0 := by omega
            subst this
            have : olds = [] := List.eq_nil_of_length_eq_zero (by rw [ho2]; simp)
            subst this
            simp at hu
          · obtain rfl := Option.some.inj h
            rw [add_none, Nat.zero_add, hrow.cell]
            exact ho3 g cur hgj hrow k u hu) ⟨b, o', none⟩ m cs news hnl hcell' (by omega) h63 hbytes
    obtain ⟨v', w', hrun, hown, hgb⟩ := hgrow
    refine ⟨v', w', run_append_call hop hc hca hct (by rw [he1, hv2]; exact hrun), ?_⟩
    obtain ⟨hsz', hown⟩ := hown
    rcases hown with ⟨_, h0⟩ | ⟨g', cap', cur', rfl, hg1, hg2, hn1, hn2, hn3, hn4⟩
    · omega
    · have hk := hS.kill j hjn
      have hlt' : g' < w'.heap.size := (Array.getElem?_eq_some_iff.1 hg2).1
      obtain ⟨hr', _, _, _⟩ := ho1.app hr2 hdd
      have hrow' : Row w' g' cur' := ⟨e, (0, 0), hg2, .inl rfl⟩
      have hS2 := hk.grow (g := g') (by simp) hjn (by simp [St.kill]) hgb hg1 hlt' (.row d') (blkR_row (vs := olds ++ news) (by simp) hrow' (hr'.mono fun b' hb' => ⟨hb', hgb.block b' (hS.fr b' hb').1 (by simp)⟩) (fun k u hu => by
        rw [← hn4, List.getElem?_take] at hu
        split at hu
        · simpa using hu
        · cases hu))
      refine ⟨_, F, hS2.put (.c ?_) (dstOk_lt hd)⟩
      rw [← hm]
      exact .own _ _ _ _ _ _ hn1 hn2 (.inr ⟨g', by simp, rfl, cur', hrow', by rw [hn3]; omega⟩)
end

end Go.Sx

/-
  Chapter 04: the numbers that are written. The conditions: rows of at most a million numbers.
-/
import Derived.Test.YthalijmfhllgbaaDoorO3
import Derived.Test.YthalijmfhllgbaaDoorSxK
namespace Go.Sx
open Go
set_option linter.unusedVariables false
set_option linter.unusedSimpArgs false
section
variable {P : Program} {E : Env} {ops : Array Oper} {o : Oper} {σ : St}
/-- The operation that makes the row: a literal. -/
theorem opt_lit {t e : TypeId} {n by_ sc K : Nat} {parts : Array (Nat × Operand)} {ps : List Prop} {k : IntKind} {l : List Int} (hop : o.op = .buildSlice t n parts) (hg : o.guard = none) (hdst : o.dst = some sc) (hK : K = nk (some sc) 0)
    (hf : ∀ τ, Like ops o τ σ → litI P e n o.dst (fillA (fun i => some (i * 1, 1)) (List.replicate (n * 1) .un) (parts.toList.map fun (i, x) => (i, ox (fresh τ o.dst) x))) = some (some sc, ps, k, l))
    (hd : dstOk E.n (some sc) = true) (hE : Elt P t e 1 by_) (hz : zeroOk P e) (hp : AllP ps) (hn : n ≤ 16777216 ∧ l.length = n) :
    ∀ τ, Like ops o τ σ → kfr K sc τ → (τ.tm sc).kill K = τ.tm sc → τ.hp K = .gone → OpT P E ops o τ ((τ.seth K (.row (.ints k l))).put o.dst (.c (.own K 1 0 l.length))) := by
  intro τ hl hkf hkc hKg
  refine opT_WL fun Q' hQ => s_litI hop hg (hf τ hl) hd hE hz hp hn ?_
  refine WL_nil fun a w hS => hQ a w (hS.weaken ⟨fun s => ?_, fun j => ?_⟩)
  · rw [hdst, hK]
    show Av.le (if s = sc then _ else (τ.tm s).kill (nk (some sc) 0)) (if s = sc then _ else τ.tm s)
    by_cases e : s = sc
    · rw [if_pos e, if_pos e]; exact .inl rfl
    · rw [if_neg e, if_neg e, ← hK, hkf.1 s e]; exact .inl rfl
  · rw [hdst, hK]
    show Blk.le (if j = nk (some sc) 0 then _ else (match decide (j = nk (some sc) 0) with | true => Blk.gone | false => (τ.hp j).kill (nk (some sc) 0))) (if j = nk (some sc) 0 then _ else τ.hp j)
    by_cases e : j = nk (some sc) 0
    · rw [if_pos e, if_pos e]; exact .inl rfl
    · rw [if_neg e, if_neg e]; simp only [e, decide_false]; rw [← hK, hkf.2 j (by rw [hK]; exact e)]; exact .inl rfl
/-- The operation that takes the row over: an append of data. -/
theorem opt_appendN {t e : TypeId} {by_ : Nat} {c : Call} {x y : Operand} {px qs : List Prop} {K sc su n : Nat} {k : IntKind} {l l2 : List Int} (hop : o.op = .call c) (hc : c.callee = .builtin .append) (ha : c.args.toList = [x, y]) (hty : c.argTypes.toList = [t, t])
    (hg : o.guard = none) (hd : dstOk E.n o.dst = true) (hdst : o.dst = some su) (hE : Elt P t e 1 by_) (hx : ox σ x = (px, .c (.own K 1 0 n))) (hb : σ.hp K = .row (.ints k l)) (hj64 : Nat.ble 64 K = true)
    (hy : ox σ y = (qs, .c (.lf (.ints k l2)))) (hp : AllP (px ++ qs)) (hnl : n = l.length) (hlim : l.length + l2.length ≤ 4294967296 ∧ by_ ≤ 4096) (hnb : E.nb = 0) :
    ∀ τ, Like ops o τ σ → kfr K sc τ → OpT P E ops o τ (((τ.set sc (.c .un)).seth K .gone).put o.dst (.c (.lf (.ints k (l ++ l2))))) := by
  intro τ hl hkf
  have e1 : ox τ x = ox σ x := hl.ox x (by rw [hop]; simp [Op.operands, Call.operands, ha, hc])
  have e2 : ox τ y = ox σ y := hl.ox y (by rw [hop]; simp [Op.operands, Call.operands, ha, hc])
  refine opT_WL fun Q' hQ => ?_
  have hyt : ox τ y = (qs, .c (.lf (.ints k l2))) := by rw [e2]; exact hy
  refine s_appI (dd := some su) hop hc ha hty hg (by rw [hdst]; rfl) (by rw [← hdst]; exact hd) hE (by rw [e1]; exact hx) (by rw [hl.hp]; exact hb) hj64 (l2 := l2) (qs := qs) (by rw [hyt]; rfl) hp hnl hlim ?_
  have etm : ((((τ.kill K).seth K (.row (.ints k (l ++ l2)))).put (some su) (.c (.own K 1 0 (l ++ l2).length)))).tm su = .c (.own K 1 0 (l ++ l2).length) := if_pos rfl
  refine WL_freeze K [(su, .c (.lf (.ints k (l ++ l2))))] (d := .ints k (l ++ l2)) (if_pos rfl) hnb ?_ ?_
  · refine ⟨?_, ?_⟩
    · show FrzA _ _ _ _
      rw [etm]
      exact ⟨rfl, rfl, rfl, by simp, by rw [List.drop_zero, List.length_append, ← List.length_append, List.take_length]⟩
    · show ([(su, Av.c (.lf (.ints k (l ++ l2))))].all fun p => notUn (((((τ.kill K).seth K (.row (.ints k (l ++ l2)))).put (some su) (.c (.own K 1 0 (l ++ l2).length)))).tm p.1)) = true
      simp only [List.all_cons, List.all_nil, etm]
      rfl
  · refine WL_nil fun a w hS => hQ a w (hS.weaken ⟨fun s => ?_, fun j => ?_⟩)
    · rw [hdst]
      show Av.le (if s = su then _ else ((if s = su then _ else (τ.tm s).kill K).kill K)) (if s = su then _ else if s = sc then _ else τ.tm s)
      by_cases e : s = su
      · rw [if_pos e, if_pos e]; exact .inl rfl
      · rw [if_neg e, if_neg e, if_neg e]
        by_cases e2 : s = sc
        · rw [if_pos e2]; exact .inr rfl
        · rw [if_neg e2, hkf.1 s e2, hkf.1 s e2]; exact .inl rfl
    · rw [hdst]
      show Blk.le (match decide (j = K) with | true => Blk.gone | false => (if j = K then _ else (match decide (j = K) with | true => Blk.gone | false => (τ.hp j).kill K)).kill K) (if j = K then _ else τ.hp j)
      by_cases e : j = K
      · rw [if_pos e]; simp only [e, decide_true]; exact .inl rfl
      · rw [if_neg e, if_neg e]; simp only [e, decide_false]
        rw [hkf.2 j e, hkf.2 j e]; exact .inl rfl
theorem str_nil {x y : Av} (h : str x = ([], y)) : x = y := by
  cases x <;> simp_all [str]
end
end Go.Sx
namespace Go.Proofs.YthalijmfhllgbaaDoor
open Go.Sx

set_option maxRecDepth 10000

theorem numbers_ok (a b : Int) (t : List Int) (ha : 0 ≤ a ∧ a ≤ 2) (hb0 : 0 ≤ b ∧ b ≤ 2147483647) (hl : t.length ≤ 1000000) : Ct Tryd.prog 33 [I64 (a :: b :: t)] [] (I64 ((40 * a + b) :: t)) [] [] := by
  refine Ct_intro Tryd.func33 rfl rfl rfl rfl rfl (fun E hn hb => ?_)
  repeat (first | refine stp ?_ | refine N_block_pass rfl ?_ | refine sp1 ?_ | refine sg1 ?_ | refine WL_nil ?_)
  refine W_weaken (St.le_of (l := [(0, I64 (a :: b :: t)), (2, lv (.slice none 0 0))]) (h := []) (by refine ⟨?_, ?_⟩ <;> (repeat' (first | exact trivial | exact rfl | refine ⟨?_, ?_⟩)) <;> first | exact rfl | (simp; done) | skip)) ?_
  refine W_drawK (BC := .row (.ints .i64 [40 * a + b])) (oc := .own 75 1 0 1) 75 11 14 8 11 (by kernel_rfl) (by kernel_rfl) (by rw [hn]; rfl) rfl rfl rfl rfl (by kernel_rfl) (by kernel_rfl) rfl rfl (by rw [hb]; decide) rfl (look_kill ⟨rfl, rfl⟩) (look_killB trivial) ?_
  repeat (first | refine DrawK_cons rfl rfl rfl (ops_pure true rfl rfl (by first | trivial | (simp; done) | (simp; omega) | (simp at *; done) | (simp at *; omega))) rfl ?_ | refine DrawK_cons rfl rfl rfl (ops_pureG true rfl rfl rfl (by intro hG; first | trivial | (simp; done) | (simp; omega) | (simp at *; done) | (simp at *; omega))) rfl ?_ | refine DrawK_nil ?_)
  refine DrawK_c rfl rfl (opt_lit (by_ := 8) (ps := []) rfl rfl rfl rfl (fun τ hl => ?_) (by rw [hn]; rfl) (elt_mk Tryd.underlying22 rfl rfl) zok3 trivial ⟨by decide, rfl⟩) ?_
  · have h10 := hl.ox (.tmp 10) (by simp [Op.operands])
    have h11 : τ.tm 10 = lv (.int .i64 (40 * a + b)) := str_nil h10
    show litI Tryd.prog 3 1 (some 11) (fillA (fun i => some (i * 1, 1)) [.un] [(0, str ((τ.tm 10).kill 75))]) = _
    rw [h11]
    rfl
  repeat (first | refine DrawK_cons rfl rfl rfl (ops_pure true rfl rfl (by first | trivial | (simp; done) | (simp; omega) | (simp at *; done) | (simp at *; omega))) rfl ?_ | refine DrawK_cons rfl rfl rfl (ops_pureG true rfl rfl rfl (by intro hG; first | trivial | (simp; done) | (simp; omega) | (simp at *; done) | (simp at *; omega))) rfl ?_ | refine DrawK_nil ?_)
  refine DrawK_u rfl rfl rfl (opt_appendN rfl rfl rfl rfl rfl (by rw [hn]; rfl) rfl (elt_mk Tryd.underlying22 rfl rfl) rfl rfl rfl rfl (by trivial) rfl ⟨by simp; omega, by decide⟩ hb) rfl ?_
  repeat (first | refine DrawK_cons rfl rfl rfl (ops_pure true rfl rfl (by first | trivial | (simp; done) | (simp; omega) | (simp at *; done) | (simp at *; omega))) rfl ?_ | refine DrawK_cons rfl rfl rfl (ops_pureG true rfl rfl rfl (by intro hG; first | trivial | (simp; done) | (simp; omega) | (simp at *; done) | (simp at *; omega))) rfl ?_ | refine DrawK_nil ?_)
  refine WL_nil ?_
  repeat (first | refine stp ?_ | refine N_block_pass rfl ?_ | refine sp1 ?_ | refine sg1 ?_ | refine WL_nil ?_)
  trace_state
  refine rt2 [] ?_ ?_
  · rfl
  · trivial
end Go.Proofs.YthalijmfhllgbaaDoor

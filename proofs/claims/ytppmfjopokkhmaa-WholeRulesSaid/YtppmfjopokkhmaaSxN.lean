/-
  'copy' into a row of the call's own. No condition.
-/
import Derived.Test.YtppmfjopokkhmaaSxX
import Derived.Laws.IdiomCopy
namespace Go.Sx
open Go
set_option linter.unusedVariables false
set_option linter.unusedSimpArgs false

theorem run_copy_own {P : Program} (w : World) (dT sT ty elem : TypeId) (g o dLen dCap : Nat) (a : Addr) (sLen sCap : Nat) (cs : List Value) (cur : Array Value)
    (hu : P.underlying dT = some (.slice elem)) (hs : (P.info? elem).map (·.size) = some 1) (hn : cs.length = Nat.min sLen dLen)
    (hsrc : ∀ j v, cs[j]? = some v → w.cell? (a.add j) = some v) (hrow : Row w g cur) (hfit : o + cs.length ≤ cur.size) (h1 : ∀ v ∈ cs, v.oneCell' = true) :
    ∃ w', (Builtin.copy_ #[dT, sT] ty #[.slice (some ⟨g, o, none⟩) dLen dCap, .slice (some a) sLen sCap]).run P w = .ok (goInt cs.length) w' ∧ Wr w w' g (lay cur o cs) := by
  have hl := run_loadCells_list (P := P) w a cs hsrc
  obtain ⟨w', r1, r2⟩ := run_storeCells' (P := P) (g := g) (off := o) cs 0 w cur h1 hrow (by simpa using hfit)
  refine ⟨w', ?_, by simpa using r2⟩
  cases hq : P.info? elem with
  | none => simp [hq] at hs
  | some i =>
    have hi : i.size = 1 := by simpa [hq] using hs
    simp [Builtin.copy_, run_underlying hu, Builtin.lenOf, Builtin.firstCells, sizeOf, typeInfo, hq, hi, ← hn, hl, r1]

section
variable {P : Program} {E : Env} {ops : Array Oper} {Q : Exit → Act → World → Prop} {o : Oper} {σ : St} {rest : List Oper}

theorem run_copy_call {x y : Operand} {t t' : TypeId} {c : Call} {a : Act} {w : World} {v : Value} {w' : World} (hop : o.op = .call c) (hc : c.callee = .builtin .copy) (ha : c.args = #[x, y]) (ht : c.argTypes = #[t, t'])
    (h : (Builtin.copy_ #[t, t'] o.type #[a.eval x, a.eval y]).run P w = .ok v w') : (execOp a.eval o).run P w = .ok (.value v) w' := by
  simp only [execOp, hop, resolve, hc, ha, ht, Sem.run_bind, Sem.run_pure, Result.andThen_ok, invoke, builtin]
  simp only [List.map_toArray, List.map_cons, List.map_nil, h, Result.andThen_ok]

theorem s_copyI {t e : TypeId} {by_ : Nat} {dd : Option Nat} {c : Call} {x y : Operand} {px qs : List Prop} {j off n : Nat} {k : IntKind} {l l2 : List Int} (hop : o.op = .call c) (hc : c.callee = .builtin .copy) (ha : c.args.toList = [x, y]) (hty : c.argTypes.toList = [t, t]) (hg : o.guard = none)
    (hdf : forceO o.dst some = some dd) (hd : dstOk E.n dd = true)
    (hE : Elt P t e 1 by_) (hx : ox σ x = (px, .c (.own j 1 off n))) (hb : σ.hp j = .row (.ints k l)) (hy : srcP σ (ox σ y) = some (qs, .ints k l2)) (hp : AllP (px ++ qs)) (hn : off + n ≤ l.length)
    (hk : WL P E ops Q rest ((σ.seth j (.row (.ints k (l.take off ++ l2.take n ++ l.drop (off + (l2.take n).length))))).put dd (lv (.int .i64 (l2.take n).length)))) : WL P E ops Q (o :: rest) σ := by
  simp only [forceO_eq, Option.some.injEq] at hdf
  subst hdf
  refine WL_step hg _ (fun a w hS => ?_) hk
  obtain ⟨β, F, hS⟩ := hS
  have hv1 := oxR hS x
  rw [hx] at hv1
  have hv1 := hv1 hp.left
  obtain ⟨ad, m, cs, news, hv2, hm, hmc, hr2, hcell⟩ := srcP_sound hS hy hp.right (oxR hS y)
  have hca : c.args = #[x, y] := by apply Array.toList_inj.1; simpa using ha
  have hct : c.argTypes = #[t, t] := by apply Array.toList_inj.1; simpa using hty
  generalize he1 : a.eval x = v1 at hv1
  dsimp only at hv1
  cases hv1 with | c hv1 => cases hv1 with | own _ _ _ _ ao cap hlc hmx hh =>
  obtain ⟨ht, i, z, hi, hz, hsz, hby, hzs⟩ := hE
  have hinfo : (P.info? e).map (·.size) = some 1 := by rw [hi]; simp [hsz]
  have hgone : σ.hp j ≠ .gone := by rw [hb]; intro h; cases h
  have hnews : news = l2.map (Value.int k) := hr2
  have hml : m = l2.length := hm
  have hfinal : ∀ w' σ', SRb E β F σ' a w' → SR E (σ'.put o.dst (lv (.int .i64 (l2.take n).length))) (a.put o.dst (goInt (l2.take n).length)) w' := fun w' σ' h => ⟨β, F, h.put (.c (.lf (.v _ rfl))) (dstOk_lt hd)⟩
  by_cases h0 : (l2.take n).length = 0
  · have hmin : Nat.min m n = 0 := by
      rw [List.length_take] at h0
      show min m n = 0
      omega
    have eσ : σ.seth j (.row (.ints k (l.take off ++ l2.take n ++ l.drop (off + (l2.take n).length)))) = σ := by
      have h1 : l2.take n = [] := List.eq_nil_of_length_eq_zero h0
      rw [h1]
      simp only [List.append_nil, List.length_nil, Nat.add_zero, List.take_append_drop]
      unfold St.seth
      obtain ⟨tm, hp'⟩ := σ
      simp only [St.mk.injEq, true_and]
      funext i
      by_cases hij : i = j
      · subst hij; simpa using hb.symm
      · simp [hij]
    rw [eσ]
    refine ⟨goInt 0, w, run_copy_call hop hc hca hct (by rw [he1, hv2]; exact run_copy_none w t t o.type e ao ad n cap m cs ht hinfo hmin), ?_⟩
    have := hfinal w σ hS
    rw [h0] at this ⊢
    exact this
  · have hB := hS.hp j
    rw [hb] at hB
    have hnl : 0 < n := by
      rcases Nat.eq_zero_or_pos n with h | h
      · subst h; simp at h0
      · exact h
    rcases hh with hc0 | ⟨g, hgj, rfl, hcap⟩
    · omega
    · rcases hB with ⟨hl0, _⟩ | ⟨g', cur, hg', hrow, hcc⟩
      · subst hl0; simp at hn; omega
      · rw [hgj] at hg'
        obtain rfl := Option.some.inj hg'
        have hlc2 : l.length ≤ cur.size := by
          rcases Nat.eq_zero_or_pos l.length with h | h
          · omega
          · have := hcc (l.length - 1) l[l.length - 1] (by simp [show l.length - 1 < l.length by omega])
            have := (Array.getElem?_eq_some_iff.1 this).1
            omega
        obtain ⟨b, o', had, hcl⟩ := hcell (by rw [hnews]; intro h; apply h0; simp at h; rw [h]; simp)
        subst had
        have hvs : ((l2.take n).map (Value.int k)).length = Nat.min m n := by
          rw [List.length_map, List.length_take, hml]
          show min n l2.length = min l2.length n
          omega
        have hfit : off + ((l2.take n).map (Value.int k)).length ≤ cur.size := by
          rw [List.length_map, List.length_take]; omega
        obtain ⟨w', r1, r2⟩ := run_copy_own (P := P) w t t o.type e g off n cap ⟨b, o', none⟩ m cs ((l2.take n).map (Value.int k)) cur ht hinfo hvs (fun q v hq => by
          have hq' : news[q]? = some v := by
            rw [hnews]
            rw [List.getElem?_map, List.getElem?_take] at hq
            split at hq
            · rw [List.getElem?_map]; exact hq
            · cases hq
          have := hcl q v hq'
          rw [show (⟨b, o', none⟩ : Addr).add q = ⟨b, o' + q, none⟩ by unfold Addr.add; split <;> simp_all]
          exact this) hrow hfit (fun v hv => by obtain ⟨z, _, rfl⟩ := List.mem_map.1 hv; rfl)
        have hfin := hS.written hgone hgj hrow r2 (size_lay hfit) (blk := .row (.ints k (l.take off ++ l2.take n ++ l.drop (off + (l2.take n).length)))) (.inr ⟨g, _, hgj, r2.row, fun i z hz => ?_⟩)
        · refine ⟨_, w', run_copy_call hop hc hca hct (by rw [he1, hv2]; exact r1), ?_⟩
          rw [List.length_map]
          exact hfinal w' _ hfin.1
        · rw [get_lay hfit, List.length_map]
          have hlo : (l.take off).length = off := by simp; omega
          by_cases h1 : i < off
          · rw [if_pos h1]
            rw [List.append_assoc, List.getElem?_append_left (by omega), List.getElem?_take, if_pos h1] at hz
            exact hcc i z hz
          · rw [if_neg h1]
            rw [List.append_assoc, List.getElem?_append_right (by omega), hlo] at hz
            by_cases h2 : i < off + (l2.take n).length
            · rw [if_pos h2, List.getElem?_map]
              rw [List.getElem?_append_left (by omega)] at hz
              rw [hz]; rfl
            · rw [if_neg h2]
              rw [List.getElem?_append_right (by omega), List.getElem?_drop] at hz
              rw [show off + (l2.take n).length + (i - off - (l2.take n).length) = i by omega] at hz
              exact hcc i z hz
end
end Go.Sx

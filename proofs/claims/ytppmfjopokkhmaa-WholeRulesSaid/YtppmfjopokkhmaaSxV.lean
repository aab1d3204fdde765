/-
  The rules once more, in forms that leave states readable. No condition.
-/
import Derived.Test.YtppmfjopokkhmaaSxU
namespace Go.Sx
open Go
set_option linter.unusedVariables false

def forceIL {R : Type} : List Int → (List Int → R) → R
  | [], k => k []
  | x :: l, k => forceIL l fun l => k (x :: l)
theorem forceIL_eq {R : Type} : ∀ (l : List Int) (k : List Int → R), forceIL l k = k l
  | [], k => rfl
  | x :: l, k => forceIL_eq l _

def forceCL {R : Type} : List Cell → (List Cell → R) → R
  | [], k => k []
  | x :: l, k => forceC x fun x => forceCL l fun l => k (x :: l)
theorem forceCL_eq {R : Type} : ∀ (l : List Cell) (k : List Cell → R), forceCL l k = k l
  | [], k => rfl
  | x :: l, k => by simp only [forceCL, forceC_eq, forceCL_eq l]
def forceOL {R : Type} (r : Option (List Cell)) (k : List Cell → Option R) : Option R :=
  match r with
  | some l => forceCL l k
  | none => none
theorem forceOL_some {r : Option (List Cell)} {l : List Cell} (h : forceOL r some = some l) : r = some l := by
  cases r with
  | none => cases h
  | some l' => simpa [forceOL, forceCL_eq] using h

/-- The parts of an int slice written out. -/
def litI (P : Program) (e : TypeId) (n : Nat) (d : Option Nat) (r : Option (List Prop × List Cell)) : Option (Option Nat × List Prop × IntKind × List Int) :=
  match r with
  | some (ps, out) => match dataOf P e 1 n out with
    | some (.ints k l) => forceO d fun d => forceL ps fun ps => forceIL l fun l => some (d, ps, k, l)
    | _ => none
  | none => none

theorem Cell.ren1_congr {ρ ρ' : Nat → Nat} {n : Nat} (h : ∀ i, i < n → ρ i = ρ' i) {x : Cell} (hx : x.flat n = true) : x.ren1 ρ = x.ren1 ρ' := by
  cases x with
  | own i sz off len => simp only [Cell.ren1, h i (blt_lt hx)]
  | ptr i off => simp only [Cell.ren1, h i (blt_lt hx)]
  | pel i sz e k => simp only [Cell.ren1, h i (blt_lt hx)]
  | _ => rfl
theorem Cell.ren_congr {ρ ρ' : Nat → Nat} {n : Nat} (h : ∀ i, i < n → ρ i = ρ' i) {x : Cell} (hx : x.ok n = true) : x.ren ρ = x.ren ρ' := by
  cases x with
  | fn f first cap =>
    simp only [Cell.ok, Bool.and_eq_true, List.all_eq_true] at hx
    simp only [Cell.ren]
    rw [List.map_congr_left (fun x hx' => Cell.ren1_congr h (hx.1 x hx')), List.map_congr_left (fun x hx' => Cell.ren1_congr h (hx.2 x hx'))]
  | lf x => rfl
  | un => rfl
  | own i sz off len => exact Cell.ren1_congr (x := .own i sz off len) h hx
  | ptr i off => exact Cell.ren1_congr (x := .ptr i off) h hx
  | pel i sz e k => exact Cell.ren1_congr (x := .pel i sz e k) h hx
theorem Av.ren1_congr {ρ ρ' : Nat → Nat} {n : Nat} (h : ∀ i, i < n → ρ i = ρ' i) {x : Av} (hx : x.ok1 n = true) : x.ren1 ρ = x.ren1 ρ' := by
  cases x with
  | c x => simp only [Av.ren1, Cell.ren_congr h hx]
  | agg xs => simp only [Av.ren1]; rw [List.map_congr_left (fun x hx' => Cell.ren_congr h (List.all_eq_true.1 hx x hx'))]
  | _ => rfl
theorem Av.ren_congr {ρ ρ' : Nat → Nat} {n : Nat} (h : ∀ i, i < n → ρ i = ρ' i) {x : Av} (hx : x.ok n = true) : x.ren ρ = x.ren ρ' := by
  cases x with
  | tup xs => simp only [Av.ren]; rw [List.map_congr_left (fun x hx' => Av.ren1_congr h (List.all_eq_true.1 hx x hx'))]
  | c x => exact Av.ren1_congr (x := .c x) h hx
  | agg x => exact Av.ren1_congr (x := .agg x) h hx
  | ai k l => rfl
  | cnd g x => rfl

theorem zok_mk {P : Program} {t : TypeId} {i : TypeInfo} (h : P.info? t = some i) (hz : (i.zero.all fun z => z.cells.toList.all (·.oneCell')) = true) : zeroOk P t := by
  intro i' z h1 h2
  rw [h] at h1
  obtain rfl := Option.some.inj h1
  rw [h2] at hz
  simpa using hz

section
variable {P : Program} {E : Env} {ops : Array Oper} {Q : Exit → Act → World → Prop} {rest : List Oper} {o : Oper} {σ : St}

/-- '[]int{a, b}', '[]byte{..}'. -/
theorem s_litI {t e : TypeId} {n by_ : Nat} {parts : Array (Nat × Operand)} {dd : Option Nat} {ps : List Prop} {k : IntKind} {l : List Int} (hop : o.op = .buildSlice t n parts) (hg : o.guard = none)
    (hf : litI P e n o.dst (fillA (fun i => some (i * 1, 1)) (List.replicate (n * 1) .un) (parts.toList.map fun (i, x) => (i, ox (fresh σ o.dst) x))) = some (dd, ps, k, l))
    (hd : dstOk E.n dd = true) (hE : Elt P t e 1 by_) (hz : zeroOk P e) (hp : AllP ps) (hn : n ≤ 16777216 ∧ l.length = n)
    (hk : WL P E ops Q rest (((σ.kill (nk dd 0)).seth (nk dd 0) (.row (.ints k l))).put dd (.c (.own (nk dd 0) 1 0 l.length)))) : WL P E ops Q (o :: rest) σ := by
  unfold litI at hf
  split at hf
  · rename_i ps' out hr
    split at hf
    · rename_i k' l' hdd
      simp only [forceO_eq, forceL_eq, forceIL_eq, Option.some.injEq, Prod.mk.injEq] at hf
      obtain ⟨h1, rfl, rfl, rfl⟩ := hf
      subst h1
      refine s_lit hop hg hd hE hz hr hp hdd ⟨by omega, hn.1, hn.2, rfl⟩ ?_
      rw [hn.2] at hk
      exact hk
    · cases hf
  · cases hf

/-- append to a row of numbers of the call's own, all of it. -/
theorem s_appI {t e : TypeId} {by_ : Nat} {c : Call} {x y : Operand} {dd : Option Nat} {px qs : List Prop} {j n : Nat} {k : IntKind} {l l2 : List Int} (hop : o.op = .call c) (hc : c.callee = .builtin .append) (ha : c.args.toList = [x, y]) (hty : c.argTypes.toList = [t, t]) (hg : o.guard = none)
    (hdf : forceO o.dst some = some dd) (hd : dstOk E.n dd = true)
    (hE : Elt P t e 1 by_) (hx : ox σ x = (px, .c (.own j 1 0 n))) (hb : σ.hp j = .row (.ints k l)) (hj64 : Nat.ble 64 j = true) (hy : srcP σ (ox σ y) = some (qs, .ints k l2)) (hp : AllP (px ++ qs)) (hnl : n = l.length)
    (hlim : l.length + l2.length ≤ 4294967296 ∧ by_ ≤ 4096)
    (hk : WL P E ops Q rest (((σ.kill j).seth j (.row (.ints k (l ++ l2)))).put dd (.c (.own j 1 0 (l ++ l2).length)))) : WL P E ops Q (o :: rest) σ := by
  simp only [forceO_eq, Option.some.injEq] at hdf
  subst hdf
  subst hnl
  refine s_append (d' := .ints k (l ++ l2)) hop hc ha hty hg hd hE hx hb hj64 hy hp (by simp [takeD, appD]) ⟨rfl, by decide, by simp [lenD]⟩ (by simpa [lenD] using hlim) ?_
  rw [List.length_append] at hk
  exact hk

theorem s_makeI {t e : TypeId} {x y : Operand} {dd : Option Nat} {px py : List Prop} {k : IntKind} {kl kc : IntKind} {n c : Int} {by_ : Nat} (hop : o.op = .makeSlice t x y) (hg : o.guard = none)
    (hdf : forceO o.dst some = some dd) (hd : dstOk E.n dd = true) (hE : Elt P t e 1 by_) (hz : (P.info? e).bind (·.zero) = some (.int k 0))
    (hx : ox (fresh σ o.dst) x = (px, lv (.int kl n))) (hy : ox (fresh σ o.dst) y = (py, lv (.int kc c))) (hp : AllP (px ++ py)) (m : Nat) (hm : n = m) (hn : 0 ≤ n ∧ n ≤ c ∧ c ≤ 9223372036854775807 ∧ (by_ : Int) * c ≤ 281474976710656)
    (hk : WL P E ops Q rest (((σ.kill (nk dd 0)).seth (nk dd 0) (.row (.ints k (List.replicate m 0)))).put dd (.c (.own (nk dd 0) 1 0 m)))) : WL P E ops Q (o :: rest) σ := by
  simp only [forceO_eq, Option.some.injEq] at hdf
  subst hdf
  subst hm
  refine s_make hop hg hd hE hz hx hy hp hn ?_
  simpa [fresh] using hk

/-- 'var x T', a struct. -/
theorem s_allocN {t : TypeId} {dd : Option Nat} {cs : List Cell} (hop : o.op = .alloc t) (hg : o.guard = none) (hdf : forceO o.dst some = some dd) (hd : dstOk E.n dd = true) (hz : forceOL (zeroC P t) some = some cs) (hz0 : zeroOk P t)
    (hk : WL P E ops Q rest (((σ.kill (nk dd 0)).seth (nk dd 0) (.cells cs)).put dd (.c (.ptr (nk dd 0) 0)))) : WL P E ops Q (o :: rest) σ := by
  simp only [forceO_eq, Option.some.injEq] at hdf
  subst hdf
  exact s_alloc hop hg hd (forceOL_some hz) hz0 hk
theorem s_boxN {t : TypeId} {x : Operand} {dd : Option Nat} {ps : List Prop} {y : Av} {cs : List Cell} (hop : o.op = .box t x) (hg : o.guard = none) (hdf : forceO o.dst some = some dd) (hd : dstOk E.n dd = true) (hx : ox (σ.kill (nk dd 0)) x = (ps, y)) (hp : AllP ps) (hcs : forceOL (cellsA y) some = some cs) (hu : isUn y = false)
    (hk : WL P E ops Q rest (((σ.kill (nk dd 0)).seth (nk dd 0) (.cells cs)).put dd (.c (.ptr (nk dd 0) 0)))) : WL P E ops Q (o :: rest) σ := by
  simp only [forceO_eq, Option.some.injEq] at hdf
  subst hdf
  exact s_box hop hg hd hx hp (forceOL_some hcs) hu hk

/-- A store into a struct of the call's own. -/
theorem s_storeN {t : TypeId} {x y : Operand} {px py : List Prop} {j off : Nat} {v : Av} {cs xs cs' : List Cell} (hop : o.op = .store t x y) (hg : o.guard = none) (hdn : o.dst = none) (hx : ox σ x = (px, .c (.ptr j off))) (hy : ox σ y = (py, v)) (hp : AllP (px ++ py))
    (hb : σ.hp j = .cells cs) (hxs : cellsA v = some xs) (hu : isUn v = false) (h1 : P.cellsOf t = xs.length) (h2 : (P.info? t).isSome = true) (h3 : Nat.ble (off + xs.length) cs.length = true) (hf : forceCL (layC cs off xs) some = some cs')
    (hk : WL P E ops Q rest (σ.seth j (.cells cs'))) : WL P E ops Q (o :: rest) σ := by
  simp only [forceCL_eq, Option.some.injEq] at hf
  subst hf
  exact s_store hop hg hdn hx hy hp hb hxs hu ⟨h1, h2, Nat.le_of_ble_eq_true h3⟩ hk

/-- A call that makes one block. -/
theorem s_call1 {dd : Option Nat} {c : Call} {fo : Operand} {f : FuncId} {first cap : List Cell} {pf : List Prop} {xs : List Av} {res : Av} {d : Leaf} {r : Av} (hF : Ct P f xs [] res [] [.row d])
    (hop : o.op = .call c) (hg : o.guard = none) (hdf : forceO o.dst some = some dd) (hd : dstOk E.n dd = true) (hcv : c.callee = .value fo) (hfo : ox (σ.kill (nk dd 0)) fo = (pf, .c (.fn (.func f) first cap)))
    (hp : AllP (pf ++ (oxs (σ.kill (nk dd 0)) c.args.toList).1)) (hxs : first.map Av.c ++ (oxs (σ.kill (nk dd 0)) c.args.toList).2 ++ cap.map Av.c = xs) (hok : (xs.all (Av.ok 0) && res.ok 1) = true)
    (hr : forceA (res.ren (fun _ => nk dd 0)) some = some r)
    (hk : WL P E ops Q rest (((σ.kill (nk dd 0)).seth (nk dd 0) (.row d)).put dd r)) : WL P E ops Q (o :: rest) σ := by
  simp only [forceO_eq, Option.some.injEq] at hdf
  subst hdf
  simp only [forceA_eq, Option.some.injEq] at hr
  subst hr
  simp only [Bool.and_eq_true] at hok
  have e1 : ∀ {n : Nat} {l : List Av}, l.all (Av.ok 0) = true → ∀ ρ : Nat → Nat, l.map (Av.ren ρ) = l := by
    intro n l hl ρ
    have : l.map (Av.ren ρ) = l.map (Av.ren id) := List.map_congr_left fun x hx => Av.ren_congr (n := 0) (fun i h => absurd h (Nat.not_lt_zero _)) (List.all_eq_true.1 hl x hx)
    rw [this]
    clear this hl
    induction l with
    | nil => rfl
    | cons x l ih => rw [List.map_cons, ih, Av.ren_id]
  have e2 : res.ren (fun _ => nk o.dst 0) = res.ren (crho [] o.dst 1) := Av.ren_congr (n := 1) (fun i h => by
    obtain rfl : i = 0 := by omega
    rfl) hok.2
  rw [e2] at hk
  exact s_call [] hF hop hg hd hcv hfo hp ⟨by rw [e1 (n := 0) hok.1]; exact hxs, trivial, trivial, by
    simp only [List.length_nil, List.length_singleton, List.all_nil, List.all_cons, Blk.ok, Bool.and_true, hok.1, hok.2, Nat.zero_add]
    rfl⟩ hk

/-- A call that borrows nothing, and makes none. -/
theorem s_call0 {dd : Option Nat} {c : Call} {fo : Operand} {f : FuncId} {first cap : List Cell} {pf : List Prop} {xs : List Av} {res : Av} {r : Av} (hF : Ct P f xs [] res [] [])
    (hop : o.op = .call c) (hg : o.guard = none) (hdf : forceO o.dst some = some dd) (hd : dstOk E.n dd = true) (hcv : c.callee = .value fo) (hfo : ox σ fo = (pf, .c (.fn (.func f) first cap)))
    (hp : AllP (pf ++ (oxs σ c.args.toList).1)) (hxs : first.map Av.c ++ (oxs σ c.args.toList).2 ++ cap.map Av.c = xs) (hok : (xs.all (Av.ok 0) && res.ok 0) = true)
    (hr : forceA res some = some r)
    (hk : WL P E ops Q rest (σ.put dd r)) : WL P E ops Q (o :: rest) σ := by
  simp only [forceO_eq, Option.some.injEq] at hdf
  subst hdf
  simp only [forceA_eq, Option.some.injEq] at hr
  subst hr
  exact WL_q (opq_call hF hop hg hcv hfo hp hxs hok) hd hk

def normR : Option (List Prop × Av) → Option (List Prop × Av)
  | some (ps, x) => forceL ps fun ps => forceA x fun x => some (ps, x)
  | none => none
theorem normR_eq {r : Option (List Prop × Av)} {ps : List Prop} {x : Av} (h : normR r = some (ps, x)) : r = some (ps, x) := by
  cases r with
  | none => cases h
  | some r => obtain ⟨qs, y⟩ := r; simpa [normR, forceL_eq, forceA_eq] using h

theorem N_retN {fn : Func} {ps : List Prop} {r res : Av} {bor' news : List Blk} {nb : Nat} (ks : List Nat) (hr : normR (resP P σ fn.results.toList) = some (ps, r)) (hp : AllP ps) (hf : Fin σ r nb ks res bor' news)
    (hnb : E.nb = nb) (hlb : bor'.length = nb) (hlv : AllP ((ordL 0 bor').map fun p => p.2 ≠ .gone)) :
    N E (bodyPost P fn fun e w' => ∃ v β' F', e = .returned v ∧ AvR β' F' w' res v ∧ (∀ i b, bor'[i]? = some b → BlkR β' F' w' i b) ∧ (∀ i b, news[i]? = some b → BlkR β' F' w' (nb + i) b) ∧ Out E.w0 E.M E.F0 nb news.length E.β0 β' F' w') .ret σ :=
  N_ret ks (normR_eq hr) hp hf hnb hlb hlv
theorem N_endN {fn : Func} {ps : List Prop} {r res : Av} {bor' news : List Blk} {nb : Nat} (ks : List Nat) (hr : normR (resP P σ fn.results.toList) = some (ps, r)) (hp : AllP ps) (hf : Fin σ r nb ks res bor' news)
    (hnb : E.nb = nb) (hlb : bor'.length = nb) (hlv : AllP ((ordL 0 bor').map fun p => p.2 ≠ .gone)) :
    N E (bodyPost P fn fun e w' => ∃ v β' F', e = .returned v ∧ AvR β' F' w' res v ∧ (∀ i b, bor'[i]? = some b → BlkR β' F' w' i b) ∧ (∀ i b, news[i]? = some b → BlkR β' F' w' (nb + i) b) ∧ Out E.w0 E.M E.F0 nb news.length E.β0 β' F' w') .normal σ :=
  N_end ks (normR_eq hr) hp hf hnb hlb hlv
end
end Go.Sx

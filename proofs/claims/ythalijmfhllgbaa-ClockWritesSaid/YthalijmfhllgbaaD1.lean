/-
  Dates: years, months, days; the days between. No program. The conditions: dates of the calendar.
-/
import Derived.Test.YthalijmfhllgbaaC12
import Derived.Test.YthalijmfhllgbaaSxX
import Derived.WalkKit
import Derived.ProofKit
import Derived.OpenShut
import Derived.ShutString
import Derived.ChangeOld
import Derived.Below
import Derived.Lib.SmallJoins
import Derived.Test.YthalijmfhllgbaaC16
import Derived.Test.YthalijmfhllgbaaC3
import Derived.Test.YthalijmfhllgbaaSxM
namespace Go.Proofs.Ythalijmfhllgbaa
set_option linter.unusedSimpArgs false
set_option linter.unusedVariables false
open Go.Sx

set_option maxRecDepth 10000

theorem refoft_ok (n : Int) : Ct Try.prog 38 [lv (.int .i64 n)] [] (tagA (ofT n)) [] [] := by
  refine Ct_intro Try.func38 rfl rfl rfl rfl rfl (fun E hn hb => ?_)
  repeat (first | refine stp ?_ | refine N_block_pass rfl ?_ | refine sp1 ?_ | refine sg1 ?_ | refine WL_nil ?_)
  refine s_allocN rfl rfl rfl (by rw [hn]; rfl) rfl zok64 ?_
  repeat (first | refine stp ?_ | refine N_block_pass rfl ?_ | refine sp1 ?_ | refine sg1 ?_ | refine WL_nil ?_)
  refine s_storeN rfl rfl rfl rfl rfl (by first | trivial | (simp; done) | (simp; omega) | (simp at *; done) | (simp at *; omega)) rfl rfl rfl (by rw [cellsOf64]; rfl) (by rw [info64]; rfl) rfl rfl ?_
  repeat (first | refine stp ?_ | refine N_block_pass rfl ?_ | refine sp1 ?_ | refine sg1 ?_ | refine WL_nil ?_)
  refine rt2 [] ?_ ?_
  · show Av.agg [.lf (.v (.int .i64 0)), .lf (.v (.int .i64 n)), .lf (.v (.bool (cond (n == 16) true (n == 17))))] = _
    have e : (cond (n == 16) true (n == 17)) = decide (n = 16 ∨ n = 17) := by
      by_cases h1 : n = 16 <;> by_cases h2 : n = 17 <;> simp [h1, h2]
    rw [e]
    rfl
  · trivial
structure RS where
  i : Nat
  n : Int
def RS.ok (l : List Int) (p : Nat) (s : RS) : Prop := s.i ≤ 3 ∧ p + 1 + s.i ≤ l.length ∧ numP l (3 - s.i) (p + 1 + s.i) s.n = numP l 3 (p + 1) 0 ∧ 0 ≤ s.n ∧ (s.i = 0 ∧ s.n < 1 ∨ s.i = 1 ∧ s.n < 128 ∨ s.i = 2 ∧ s.n < 16384 ∨ s.i = 3 ∧ s.n < 2097152)
end Go.Proofs.Ythalijmfhllgbaa

namespace Go.Sx
open Go
open Go.ChangeShapes Go.WideShapes Go.ChangeAt Go.RowKit Go.Joins Go.Deep
set_option linter.unusedVariables false

/-- All that was there. -/
abbrev Was (w : World) : Nat → Prop := fun b => b < w.heap.size

section
variable {H : Type} {enc : TypeId × Value → H} {P : Program} {w : World} {base : Nat} {spare : Nat → Bool} {held : Bool} {fuel : Nat}

/-- A struct of two ints that came in. -/
theorem open_int2 {t : TypeId} {f0 f1 : Field} {k0 k1 : IntKind} {v : Value} {d : DataW H} {p : List MemPlace} {r : Reach} {b0 : Nat} (hs : P.underlying t = some (.struct #[f0, f1])) (hone : oneCellFields P #[f0, f1] = true) (hC : P.cellsOf t = 2)
    (h0 : P.underlying f0.type = some (.int k0)) (h1 : P.underlying f1.type = some (.int k1)) (hv : Value.okWide P w r b0 t v) (h : DataW.Trod enc P w base spare held t v d p) :
    ∃ (a b : Int), (Lit.int k0 a).wf = true ∧ (Lit.int k1 b).wf = true ∧ ∀ β, AvR β (Was w) w (.agg [.lf (.v (.int k0 a)), .lf (.v (.int k1 b))]) v := by
  obtain ⟨c0, c1, y0, y1, n, rfl, rfl, rfl, hy0, hy1⟩ := open_agg2 hs hone hC hv h
  obtain ⟨a, e0, _, w0⟩ := DataW.trod_int h0 hy0
  obtain ⟨b, e1, _, w1⟩ := DataW.trod_int h1 hy1
  simp at e0 e1
  subst e0 e1
  refine ⟨a, b, w0, w1, fun β => .agg _ _ rfl fun i x v hx hv => ?_⟩
  match i, hx, hv with
  | 0, hx, hv =>
    simp at hx hv
    subst hx hv
    exact .lf (.v _ rfl)
  | 1, hx, hv =>
    simp at hx hv
    subst hx hv
    exact .lf (.v _ rfl)
theorem Ct.calls {f : FuncId} {args : List Av} (h : Ct P f args [] (.c (.lf (.v (.bool true)))) [] []) (w : World) (vs : List Value) (hl : vs.length = args.length) (ha : ∀ (i : Nat) (x : Av) (v : Value), args[i]? = some x → vs[i]? = some v → AvR (fun _ => none) (Was w) w x v) :
    Calls P f vs.toArray w fun e w' => e = .returned (.bool true) ∧ Below w.heap.size w w' := by
  refine (h.2.2 w (fun _ => none) (Was w) vs hl ha (fun i b h => by simp at h) (fun i j g h => absurd h (Nat.not_lt_zero _)) (fun j g h => absurd h (Nat.not_lt_zero _)) (fun _ _ => rfl) (fun b hb => hb)).mono fun e w' hq => ?_
  obtain ⟨v, β', F', rfl, hr, _, _, ho⟩ := hq
  refine ⟨?_, ?_⟩
  · cases hr with | c hr => cases hr with | lf hr => cases hr with | v x h => rfl
  · have hk := ho.keep
    exact ⟨hk.os, hk.tape, hk.output, hk.size, fun k hk' => hk.block k hk' (by rintro ⟨i, hi, _⟩; exact absurd hi (Nat.not_lt_zero _))⟩
end
end Go.Sx

namespace Go.Proofs.Ythalijmfhllgbaa
set_option linter.unusedSimpArgs false
set_option linter.unusedVariables false
open Go.Sx

set_option maxRecDepth 10000

theorem wrap_ok (t : TagP) (bs : List (List Int)) (h : rightT t = true) (hbl : bs.length ≤ 100000) (hl : bs.flatten.length ≤ 1000000) :
    Ct Try.prog 84 [tagA t, rowsA bs] [] (.tup [B8 (wrapL t bs.flatten), lv (.int .i64 0)]) [] [] :=
  (wrapO_ok t bs h hbl hl).freeze ⟨⟨rfl, rfl, rfl, by simp, by rw [List.drop_zero, List.take_length]⟩, rfl, trivial⟩ rfl
theorem refwrap_ok (t : TagP) (b : List Int) (h : rightT t = true) (hl : b.length ≤ 1000000) : Ct Try.prog 37 [tagA t, B8 b] [] (B8 (wrapL t b)) [] [] :=
  (refwrapO_ok t b h hl).freeze ⟨rfl, rfl, rfl, by simp, by rw [List.drop_zero, List.take_length]⟩ rfl
end Go.Proofs.Ythalijmfhllgbaa

namespace Go.Proofs.Ythalijmfhllgbaa
set_option linter.unusedSimpArgs false
set_option linter.unusedVariables false
open Go.Sx

set_option maxRecDepth 10000

theorem wrap_len (t : TagP) (X : List Int) : (wrapL t X).length ≤ X.length + 20 := by
  have h1 := lowD_len 128 5 t.2.1.toNat
  have h2 := lowD_len 256 5 X.length
  have hT5 : (tgL t).length ≤ 10 := by
    unfold tgL
    split
    · simp
    · simp [hiL_len]; omega
  have hL5 : (lenL X.length).length ≤ 10 := by
    generalize X.length = n at *
    unfold lenL
    split
    · simp
    · simp; omega
  simp only [wrapL, List.length_append]
  omega
theorem wfB_app {a b : List Int} (ha : WfB a) (hb : WfB b) : WfB (a ++ b) := fun x hx => (List.mem_append.1 hx).elim (ha x) (hb x)
end Go.Proofs.Ythalijmfhllgbaa

namespace Go.Proofs.Ythalijmfhllgbaa.Dt
set_option linter.unusedSimpArgs false
set_option linter.unusedVariables false
def longB (y : Int) : Bool := (y % 4 == 0 && y % 100 != 0) || y % 400 == 0
def lp (y : Int) : Int := if longB y then 1 else 0
def yst (y : Int) : Int := 365 * y + (y + 3) / 4 - (y + 99) / 100 + (y + 399) / 400 - 719528
def daysN (y m : Int) : Int :=
  if m = 2 then 28 + lp y else if m = 4 ∨ m = 6 ∨ m = 9 ∨ m = 11 then 30 else if 1 ≤ m ∧ m ≤ 12 then 31 else 0
/-- The days ahead of a month. -/
def mst (y m : Int) : Int :=
  if m ≤ 1 then 0 else if m = 2 then 31 else if m = 3 then 59 + lp y else if m = 4 then 90 + lp y else if m = 5 then 120 + lp y else if m = 6 then 151 + lp y else if m = 7 then 181 + lp y
  else if m = 8 then 212 + lp y else if m = 9 then 243 + lp y else if m = 10 then 273 + lp y else if m = 11 then 304 + lp y else if m = 12 then 334 + lp y else 365 + lp y
def numD (y m d : Int) : Int := yst y + mst y m + d - 1
def rightD (y m d : Int) : Bool := decide (0 ≤ y) && decide (y ≤ 9999) && decide (1 ≤ d) && decide (d ≤ daysN y m)

theorem lp_01 (y : Int) : lp y = 0 ∨ lp y = 1 := by unfold lp; split <;> simp
theorem yst_succ (y : Int) : yst (y + 1) = yst y + 365 + lp y := by
  unfold yst lp longB
  simp only [Bool.or_eq_true, Bool.and_eq_true, beq_iff_eq, bne_iff_ne]
  split <;> omega
theorem mst_succ (y m : Int) (h : 1 ≤ m ∧ m ≤ 12) : mst y (m + 1) = mst y m + daysN y m := by
  have hm : m = 1 ∨ m = 2 ∨ m = 3 ∨ m = 4 ∨ m = 5 ∨ m = 6 ∨ m = 7 ∨ m = 8 ∨ m = 9 ∨ m = 10 ∨ m = 11 ∨ m = 12 := by omega
  rcases hm with h | h | h | h | h | h | h | h | h | h | h | h <;> subst h <;> simp [mst, daysN] <;> omega
theorem days_pos {y m : Int} (h : 0 < daysN y m) : 1 ≤ m ∧ m ≤ 12 := by
  unfold daysN at h
  split at h
  · omega
  · split at h
    · omega
    · split at h
      · assumption
      · omega
theorem mst_end (y : Int) : mst y 13 = 365 + lp y := by simp [mst]
theorem mst_mono (y : Int) {m k : Int} (h : 1 ≤ m) (h1 : m < k) (h2 : k ≤ 13) : mst y m + daysN y m ≤ mst y k := by
  have hl := lp_01 y
  unfold mst daysN
  (repeat' split) <;> omega
theorem yst_mono {y z : Int} (h : y < z) : yst y + 365 + lp y ≤ yst z := by
  rw [← yst_succ]
  unfold yst
  omega
theorem mst_nonneg (y m : Int) (h : 1 ≤ m ∧ m ≤ 12) : 0 ≤ mst y m := by
  by_cases h1 : m = 1
  · subst h1; exact Int.le_refl _
  · have h2 := mst_mono y (m := 1) (k := m) (by omega) (by omega) (by omega)
    have e1 : mst y 1 = 0 := rfl
    have e2 : daysN y 1 = 31 := rfl
    omega
/-- A day within its year. -/
theorem num_year {y m d : Int} (h : 1 ≤ d ∧ d ≤ daysN y m) : yst y ≤ numD y m d ∧ numD y m d < yst (y + 1) := by
  have hm := days_pos (y := y) (m := m) (by omega)
  have h1 := mst_mono y (m := m) (k := 13) hm.1 (by omega) (by omega)
  rw [mst_end] at h1
  rw [yst_succ]
  have hl := lp_01 y
  have h0 := mst_nonneg y m hm
  unfold numD
  omega
/-- Which of two days is ahead. -/
theorem num_lt {y m d y' m' d' : Int} (h : 1 ≤ d ∧ d ≤ daysN y m) (h' : 1 ≤ d' ∧ d' ≤ daysN y' m') :
    numD y m d < numD y' m' d' ↔ y < y' ∨ y = y' ∧ (m < m' ∨ m = m' ∧ d < d') := by
  have key : ∀ {y m d y' m' d' : Int}, 1 ≤ d ∧ d ≤ daysN y m → 1 ≤ d' ∧ d' ≤ daysN y' m' → (y < y' ∨ y = y' ∧ (m < m' ∨ m = m' ∧ d < d')) → numD y m d < numD y' m' d' := by
    intro y m d y' m' d' h h' hl
    rcases hl with hl | ⟨rfl, hl | ⟨rfl, hl⟩⟩
    · have h1 := (num_year h).2
      have h2 := (num_year h').1
      rw [yst_succ] at h1
      have := yst_mono hl
      omega
    · have hm := days_pos (y := y) (m := m) (by omega)
      have hm' := days_pos (y := y) (m := m') (by omega)
      have := mst_mono y hm.1 hl (by omega)
      unfold numD
      omega
    · unfold numD; omega
  constructor
  · intro hl
    by_cases hc : y < y' ∨ y = y' ∧ (m < m' ∨ m = m' ∧ d < d')
    · exact hc
    · exfalso
      by_cases he : y = y' ∧ m = m' ∧ d = d'
      · obtain ⟨rfl, rfl, rfl⟩ := he
        omega
      · have := key h' h (by omega)
        omega
  · exact key h h'
theorem num_inj {y m d y' m' d' : Int} (h : 1 ≤ d ∧ d ≤ daysN y m) (h' : 1 ≤ d' ∧ d' ≤ daysN y' m') (he : numD y m d = numD y' m' d') : y = y' ∧ m = m' ∧ d = d' := by
  have h1 := num_lt h h'
  have h2 := num_lt h' h
  omega

theorem yst_next (z : Int) : yst (z + 1) = 365 * z + z / 4 - z / 100 + z / 400 - 719162 := by unfold yst; omega
/-- The program's number: years that begin in March. -/
def pY (y m : Int) : Int := if m - 3 < 0 then y - 1 else y
def pM (m : Int) : Int := if m - 3 < 0 then m - 3 + 12 else m - 3
def pE (y : Int) : Int := if y < 0 then -1 else y / 400
def pNum (y m d : Int) : Int :=
  pE y * 146097 + (y - 400 * pE y) * 365 + (y - 400 * pE y) / 4 - (y - 400 * pE y) / 100 + (153 * m + 2) / 5 + d - 1 - 719468
theorem pNum_key (z m d : Int) (hz : -1 ≤ z) : pNum z m d = yst (z + 1) + (153 * m + 2) / 5 + d - 307 := by
  have e : pE z = z / 400 := by unfold pE; split <;> omega
  unfold pNum
  rw [e, yst_next]
  generalize (153 * m + 2) / 5 = q
  have h1 : (z - 400 * (z / 400)) / 4 = z / 4 - 100 * (z / 400) := by omega
  have h2 : (z - 400 * (z / 400)) / 100 = z / 100 - 4 * (z / 400) := by omega
  rw [h1, h2]
  omega
theorem twelve {m : Int} (h : 1 ≤ m ∧ m ≤ 12) : m = 1 ∨ m = 2 ∨ m = 3 ∨ m = 4 ∨ m = 5 ∨ m = 6 ∨ m = 7 ∨ m = 8 ∨ m = 9 ∨ m = 10 ∨ m = 11 ∨ m = 12 := by omega
theorem pNum_eq {y m d : Int} (hy : 0 ≤ y) (h : 1 ≤ m ∧ m ≤ 12) : pNum (pY y m) (pM m) d = numD y m d := by
  have h1 := yst_succ y
  rcases twelve h with h | h
  · subst h
    show pNum (y - 1) 10 d = yst y + 0 + d - 1
    rw [pNum_key _ _ _ (by omega), Int.sub_add_cancel]; omega
  rcases h with h | h
  · subst h
    show pNum (y - 1) 11 d = yst y + 31 + d - 1
    rw [pNum_key _ _ _ (by omega), Int.sub_add_cancel]; omega
  have hp : ∀ m' c, (153 * m' + 2) / 5 = c - 59 → pNum y m' d = yst y + (c + lp y) + d - 1 := by
    intro m' c hc
    rw [pNum_key _ _ _ (by omega), hc]
    omega
  rcases h with h | h | h | h | h | h | h | h | h | h
  · subst h; exact hp 0 59 rfl
  · subst h; exact hp 1 90 rfl
  · subst h; exact hp 2 120 rfl
  · subst h; exact hp 3 151 rfl
  · subst h; exact hp 4 181 rfl
  · subst h; exact hp 5 212 rfl
  · subst h; exact hp 6 243 rfl
  · subst h; exact hp 7 273 rfl
  · subst h; exact hp 8 304 rfl
  · subst h; exact hp 9 334 rfl

/-! The program's date of a number. -/
def oY (r : Int) : Int := (r - r / 1460 + r / 36524 - r / 146096) / 365
def sY (k : Int) : Int := 365 * k + k / 4 - k / 100
theorem g_mono {a b : Int} (h : a ≤ b) (ha : 0 ≤ a) (hb : b ≤ 146096) : a - a / 1460 + a / 36524 - a / 146096 ≤ b - b / 1460 + b / 36524 - b / 146096 := by
  have h1 : b = 146096 ∨ b / 146096 = 0 := by omega
  have h2 : a = 146096 ∨ a / 146096 = 0 := by omega
  by_cases h3 : a = b
  · subst h3; omega
  · have h4 : a / 146096 = 0 := by omega
    have h5 : a / 36524 ≤ b / 36524 := by omega
    have h6 : b / 1460 - a / 1460 ≤ b - a := by omega
    rcases h1 with h1 | h1
    · subst h1
      have h7 : a / 36524 ≤ 3 := by omega
      omega
    · omega
theorem g_years : ∀ k : Fin 400, (365 * (k.val : Int) ≤ sY k.val - sY k.val / 1460 + sY k.val / 36524 - sY k.val / 146096) ∧
    ((sY (k.val + 1) - 1) - (sY (k.val + 1) - 1) / 1460 + (sY (k.val + 1) - 1) / 36524 - (sY (k.val + 1) - 1) / 146096 < 365 * (k.val + 1)) := by decide +kernel
theorem oY_spec {r : Int} (h0 : 0 ≤ r) (h1 : r ≤ 146096) : 0 ≤ oY r ∧ oY r ≤ 399 ∧ sY (oY r) ≤ r ∧ (r < sY (oY r + 1) ∨ r = 146096 ∧ oY r = 399) := by
  by_cases he : r = 146096
  · subst he
    decide +kernel
  have a1 := g_mono (a := r) (b := 146095) (by omega) h0 (by omega)
  have hk : 0 ≤ oY r ∧ oY r ≤ 399 := by unfold oY; omega
  have hge : 365 * oY r ≤ r - r / 1460 + r / 36524 - r / 146096 := by unfold oY; omega
  have hlt : r - r / 1460 + r / 36524 - r / 146096 < 365 * (oY r + 1) := by unfold oY; omega
  generalize oY r = k at *
  obtain ⟨n, rfl⟩ : ∃ n : Nat, k = n := ⟨k.toNat, by omega⟩
  have hy := g_years ⟨n, by omega⟩
  dsimp only at hy
  refine ⟨hk.1, hk.2, ?_, .inl ?_⟩
  · by_cases hc : sY n ≤ r
    · exact hc
    · exfalso
      by_cases hn : n = 0
      · subst hn; simp [sY] at hc; omega
      · have hy' := g_years ⟨n - 1, by omega⟩
        dsimp only at hy'
        have e : (((n - 1 : Nat) : Int)) + 1 = n := by omega
        rw [e] at hy'
        have hs : sY n ≤ 146096 := by unfold sY; omega
        have := g_mono (a := r) (b := sY n - 1) (by omega) h0 (by omega)
        omega
  · by_cases hc : r < sY (n + 1)
    · exact hc
    · exfalso
      by_cases hn : n = 399
      · subst hn; simp [sY] at hc; omega
      · have hy' := g_years ⟨n + 1, by omega⟩
        dsimp only at hy'
        have e : (((n + 1 : Nat) : Int)) = n + 1 := by omega
        rw [e] at hy'
        have hs : 0 ≤ sY (n + 1) := by unfold sY; omega
        have := g_mono (a := sY (n + 1)) (b := r) (by omega) hs h1
        omega
def oE (n : Int) : Int := if n < 0 then -1 else n / 146097
def oR (n : Int) : Int := n - oE n * 146097
def oD (r : Int) : Int := r - sY (oY r)
def oM (d : Int) : Int := (5 * d + 2) / 153
/-- The program's date of a number from -719528. -/
def ofY (n : Int) : Int := let k := n + 719468; let y := oY (oR k) + 400 * oE k; if 12 < oM (oD (oR k)) + 3 then y + 1 else y
def ofM (n : Int) : Int := let k := n + 719468; let m := oM (oD (oR k)) + 3; if 12 < m then m - 12 else m
def ofD (n : Int) : Int := let k := n + 719468; let d := oD (oR k); d - (153 * oM d + 2) / 5 + 1
theorem of_spec {n : Int} (h0 : -719528 ≤ n) (h1 : n ≤ 2932896) : rightD (ofY n) (ofM n) (ofD n) = true ∧ numD (ofY n) (ofM n) (ofD n) = n := by
  unfold ofY ofM ofD
  dsimp only
  have hE : oE (n + 719468) = (n + 719468) / 146097 := by unfold oE; split <;> omega
  have hr0 : 0 ≤ oR (n + 719468) ∧ oR (n + 719468) ≤ 146096 := by unfold oR; rw [hE]; omega
  have hrn : n + 719468 = oR (n + 719468) + oE (n + 719468) * 146097 := by unfold oR; omega
  have hEb : -1 ≤ oE (n + 719468) ∧ oE (n + 719468) ≤ 24 ∧ (oE (n + 719468) = -1 → n + 719468 < 0) := by rw [hE]; omega
  generalize oR (n + 719468) = r at *
  generalize oE (n + 719468) = e at *
  clear hE
  obtain ⟨y0, y1, y2, y3⟩ := oY_spec hr0.1 hr0.2
  have hD : oD r = r - sY (oY r) := rfl
  generalize oY r = k at *
  -- the March-year y = k + 400 e; its February is of the year y + 1
  have hlk : lp (k + 400 * e + 1) = lp (k + 1) := by
    have m4 : (k + 400 * e + 1) % 4 = (k + 1) % 4 := by omega
    have m100 : (k + 400 * e + 1) % 100 = (k + 1) % 100 := by omega
    have m400 : (k + 400 * e + 1) % 400 = (k + 1) % 400 := by omega
    have : longB (k + 400 * e + 1) = longB (k + 1) := by simp only [longB, m4, m100, m400]
    simp only [lp, this]
  have hZ : yst (k + 400 * e + 1) = sY k + 146097 * e - 719162 := by
    rw [yst_next]
    unfold sY
    have h1 : (k + 400 * e) / 4 = k / 4 + 100 * e := by omega
    have h2 : (k + 400 * e) / 100 = k / 100 + 4 * e := by omega
    have h3 : (k + 400 * e) / 400 = e := by omega
    rw [h1, h2, h3]; omega
  have hs : k = 399 ∨ sY (k + 1) = sY k + 365 + lp (k + 1) := by
    have h1 := yst_succ (k + 1)
    have h2 := yst_next k
    have h3 := yst_next (k + 1)
    unfold sY
    omega
  have hl1 := lp_01 (k + 1)
  have hd0 : 0 ≤ oD r ∧ oD r ≤ 364 + lp (k + 1) := by
    rcases hs with hs | hs
    · subst hs
      have : lp (399 + 1) = 1 := by decide
      have h4 : sY 399 = 145731 := by decide
      omega
    · rcases y3 with y3 | y3
      · omega
      · have h4 : sY 399 = 145731 := by decide
        have : lp (399 + 1) = 1 := by decide
        obtain ⟨y3, rfl⟩ := y3
        omega
  have hnn : n = oD r + sY k + e * 146097 - 719468 := by omega
  generalize oD r = d at *
  have hly := yst_succ (k + 400 * e)
  have hlp2 := lp_01 (k + 400 * e)
  have hm : oM d = 0 ∨ oM d = 1 ∨ oM d = 2 ∨ oM d = 3 ∨ oM d = 4 ∨ oM d = 5 ∨ oM d = 6 ∨ oM d = 7 ∨ oM d = 8 ∨ oM d = 9 ∨ oM d = 10 ∨ oM d = 11 := by unfold oM; omega
  have hmd : 153 * oM d ≤ 5 * d + 2 ∧ 5 * d + 2 < 153 * oM d + 153 := by unfold oM; omega
  have hy0 : 0 ≤ k + 400 * e ∨ 10 ≤ oM d := by
    have : e = -1 → 10 ≤ oM d ∨ 0 ≤ k + 400 * e := by
      intro he
      unfold oM
      have h4 : k ≤ 398 → sY k ≤ 145366 := by intro h5; unfold sY; omega
      by_cases hk : k = 399
      · subst hk
        have h6 : sY 399 = 145731 := by decide
        left; omega
      · omega
    omega
  have hym : -1 ≤ k + 400 * e := by
    have : e = -1 → k = 399 := by
      intro he
      have h4 : k ≤ 398 → sY k ≤ 145366 := by intro h5; unfold sY; omega
      omega
    omega
  have hy9 : k + 400 * e ≤ 9998 ∨ k + 400 * e = 9999 ∧ oM d ≤ 9 := by
    have h4 : 0 ≤ sY k := by unfold sY; omega
    by_cases hk : e = 24 ∧ k = 399
    · obtain ⟨rfl, rfl⟩ := hk
      have h6 : sY 399 = 145731 := by decide
      right
      refine ⟨by omega, ?_⟩
      unfold oM
      omega
    · omega
  generalize oM d = m at *
  clear y0 y1 y2 y3 hD hr0 hrn

  generalize sY k = S at *
  generalize hyy : k + 400 * e = y at *
  have fin : ∀ (M c C dn : Int), mst y M = C + lp y → daysN y M = dn → C = c + 59 → (1 ≤ d - c + 1 ∧ d - c + 1 ≤ dn ∧ m ≤ 9) → rightD y M (d - c + 1) = true ∧ numD y M (d - c + 1) = n := by
    intro M c C dn h1 h2 h3 h4
    refine ⟨?_, ?_⟩
    · simp only [rightD, Bool.and_eq_true, decide_eq_true_eq, h2]
      omega
    · simp only [numD, h1]
      omega
  rcases hm with h | h | h | h | h | h | h | h | h | h | h | h
  · subst h; exact fin 3 0 59 31 rfl rfl rfl (by omega)
  · subst h; exact fin 4 31 90 30 rfl rfl rfl (by omega)
  · subst h; exact fin 5 61 120 31 rfl rfl rfl (by omega)
  · subst h; exact fin 6 92 151 30 rfl rfl rfl (by omega)
  · subst h; exact fin 7 122 181 31 rfl rfl rfl (by omega)
  · subst h; exact fin 8 153 212 31 rfl rfl rfl (by omega)
  · subst h; exact fin 9 184 243 30 rfl rfl rfl (by omega)
  · subst h; exact fin 10 214 273 31 rfl rfl rfl (by omega)
  · subst h; exact fin 11 245 304 30 rfl rfl rfl (by omega)
  · subst h; exact fin 12 275 334 31 rfl rfl rfl (by omega)
  · subst h
    show rightD (y + 1) 1 (d - 306 + 1) = true ∧ numD (y + 1) 1 (d - 306 + 1) = n
    have h1 : daysN (y + 1) 1 = 31 := rfl
    have h2 : mst (y + 1) 1 = 0 := rfl
    refine ⟨?_, ?_⟩
    · simp only [rightD, Bool.and_eq_true, decide_eq_true_eq, h1]
      omega
    · simp only [numD, h2]
      omega
  · subst h
    show rightD (y + 1) 2 (d - 337 + 1) = true ∧ numD (y + 1) 2 (d - 337 + 1) = n
    have h1 : daysN (y + 1) 2 = 28 + lp (y + 1) := rfl
    have h2 : mst (y + 1) 2 = 31 := rfl
    refine ⟨?_, ?_⟩
    · simp only [rightD, Bool.and_eq_true, decide_eq_true_eq, h1]
      omega
    · simp only [numD, h2]
      omega
end Go.Proofs.Ythalijmfhllgbaa.Dt

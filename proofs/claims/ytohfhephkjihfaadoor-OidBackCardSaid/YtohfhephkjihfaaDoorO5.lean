/-
  Chapter 04: rows of numbers compared. The conditions: rows of at most a million numbers.
-/
import Derived.Test.YtohfhephkjihfaaDoorC15
import Derived.Test.YtohfhephkjihfaaDoorSxX
import Derived.WalkKit
import Derived.ProofKit
import Derived.OpenShut
import Derived.ShutString
import Derived.ChangeOld
import Derived.Below
import Derived.Lib.SmallJoins
import Derived.Test.YtohfhephkjihfaaDoorC12
import Derived.Test.YtohfhephkjihfaaDoorW16
import Derived.Test.YtohfhephkjihfaaDoorO3
import Derived.Test.YtohfhephkjihfaaDoorSxK
namespace Go.Proofs.YtohfhephkjihfaaDoor
set_option linter.unusedSimpArgs false
set_option linter.unusedVariables false
open Go.Sx
set_option maxRecDepth 10000
def refD (n : Int) : List Int := (if 16384 ≤ n then [128 + n / 16384] else []) ++ (if 128 ≤ n then [128 + n / 128 % 128] else []) ++ [n % 128]
theorem refD_eq (n : Nat) (h1 : 31 ≤ n) (h2 : n < 2097152) : refD (n : Int) = hiL (lowD 128 5 n).reverse := by
 have e : lowD 128 5 n = ((n % 128 : Nat) : Int) :: lowD 128 4 (n / 128) := by rw [lowD, if_neg (by omega)]
 by_cases a : n < 128
 · have e1 : lowD 128 4 (n / 128) = [] := by rw [lowD, if_pos (by omega)]
   rw [e, e1]
   simp only [refD, hiL]
   rw [if_neg (by omega), if_neg (by omega)]
   simp
 · have e1 : lowD 128 4 (n / 128) = ((n / 128 % 128 : Nat) : Int) :: lowD 128 3 (n / 128 / 128) := by rw [lowD, if_neg (by omega)]
   by_cases b : n < 16384
   · have e2 : lowD 128 3 (n / 128 / 128) = [] := by rw [lowD, if_pos (by omega)]
     rw [e, e1, e2]
     simp only [refD, hiL]
     rw [if_neg (by omega), if_pos (by omega)]
     simp
     omega
   · have e2 : lowD 128 3 (n / 128 / 128) = ((n / 128 / 128 % 128 : Nat) : Int) :: lowD 128 2 (n / 128 / 128 / 128) := by rw [lowD, if_neg (by omega)]
     have e3 : lowD 128 2 (n / 128 / 128 / 128) = [] := by rw [lowD, if_pos (by omega)]
     rw [e, e1, e2, e3]
     simp only [refD, hiL]
     rw [if_pos (by omega), if_pos (by omega)]
     simp
     omega
def refLenL (n : Int) : List Int :=
 if n < 128 then [n] else if n < 256 then [129, n] else if n < 65536 then [130, n / 256, n % 256] else if n < 16777216 then [131, n / 65536, n / 256 % 256, n % 256]
 else [132, n / 16777216, n / 65536 % 256, n / 256 % 256, n % 256]
theorem refLen_eq (n : Nat) (h : n ≤ 16777216) : refLenL (n : Int) = lenL n := by
 unfold refLenL lenL
 by_cases a : n < 128
 · rw [if_pos (by omega), if_pos a]
 rw [if_neg (by omega), if_neg a]
 have e : lowD 256 5 n = ((n % 256 : Nat) : Int) :: lowD 256 4 (n / 256) := by rw [lowD, if_neg (by omega)]
 by_cases b : n < 256
 · have e1 : lowD 256 4 (n / 256) = [] := by rw [lowD, if_pos (by omega)]
   rw [e, e1, if_pos (by omega)]
   simp
   omega
 rw [if_neg (by omega)]
 have e1 : lowD 256 4 (n / 256) = ((n / 256 % 256 : Nat) : Int) :: lowD 256 3 (n / 256 / 256) := by rw [lowD, if_neg (by omega)]
 by_cases c : n < 65536
 · have e2 : lowD 256 3 (n / 256 / 256) = [] := by rw [lowD, if_pos (by omega)]
   rw [e, e1, e2, if_pos (by omega)]
   simp
   omega
 rw [if_neg (by omega)]
 have e2 : lowD 256 3 (n / 256 / 256) = ((n / 256 / 256 % 256 : Nat) : Int) :: lowD 256 2 (n / 256 / 256 / 256) := by rw [lowD, if_neg (by omega)]
 by_cases d : n < 16777216
 · have e3 : lowD 256 2 (n / 256 / 256 / 256) = [] := by rw [lowD, if_pos (by omega)]
   rw [e, e1, e2, e3, if_pos (by omega)]
   simp
   omega
 rw [if_neg (by omega)]
 have hn : n = 16777216 := by omega
 subst hn
 decide
end Go.Proofs.YtohfhephkjihfaaDoor

namespace Go.Sx
open Go
open Go.ChangeShapes Go.WideShapes Go.ChangeAt Go.RowKit Go.Joins Go.Deep
set_option linter.unusedVariables false
abbrev Was (w : World) : Nat → Prop := fun b => b < w.heap.size
theorem cell_in {w : World} {a : Addr} {v : Value} (h : w.cell? a = some v) : a.block < w.heap.size ∧ a.spot = none := by
 unfold World.cell? at h
 split at h
 · rename_i c e m hb
   refine ⟨(Array.getElem?_eq_some_iff.1 hb).1, ?_⟩
   split at h
   · cases h
   · rename_i hs; simpa using hs
 · cases h
section
variable {H : Type} {enc : TypeId × Value → H} {P : Program} {w : World} {base : Nat} {spare : Nat → Bool} {held : Bool} {fuel : Nat}
theorem open_row {t e : TypeId} {k : IntKind} {v : Value} {x : DataW H × List MemPlace} (ht : P.underlying t = some (.slice e)) (he : P.underlying e = some (.int k)) (hc : P.cellsOf e = 1)
   (h : DataW.trod enc P w base spare held fuel t [v] = some x) : ∃ l : List Int, l.length ≤ 9223372036854775807 ∧ (∀ n ∈ l, (Lit.int k n).wf = true) ∧ LfR (Was w) w (.ints k l) v := by
 rcases open_ints ht he hc h with ⟨hcs, _⟩ | ⟨a, len, cap, zs, hcs, _, hl, hm, hz, _, hcell, hw⟩
 · simp at hcs
   subst hcs
   refine ⟨[], Nat.zero_le _, ?_, LfR.ints _ _ _ _ _ rfl (Nat.le_refl _) (Nat.zero_le _) (fun h => absurd rfl h)⟩
   intro n hn
   cases hn
 · simp at hcs
   subst hcs
   have hlz : len ≤ zs.length := by rw [hz]; split <;> omega
   have hlt : (zs.take len).length = len := by simp; omega
   have hm' : cap ≤ 9223372036854775807 := hm
   refine ⟨zs.take len, by omega, fun n hn => hw n (List.mem_of_mem_take hn), LfR.ints _ _ _ _ _ hlt.symm hl hm fun hne => ?_⟩
   have h0 : 0 < len := by
     rcases Nat.eq_zero_or_pos len with h | h
     · subst h; simp at hne
     · exact h
   have hb := cell_in (hcell 0 (by omega))
   obtain ⟨b, o, sp⟩ := a
   simp only [Addr.add, if_true] at hb
   obtain ⟨hb1, hsp⟩ := hb
   subst hsp
   have hadd : ∀ i, (⟨b, o, none⟩ : Addr).add i = ⟨b, o + i, none⟩ := by
     intro i
     unfold Addr.add
     split
     · rename_i h; subst h; rfl
     · rfl
   refine ⟨b, o, rfl, hb1, fun i x hx => ?_⟩
   obtain ⟨hi, hxe⟩ := List.getElem?_eq_some_iff.1 hx
   rw [hlt] at hi
   have := hcell i (by omega)
   rw [hadd] at this
   rw [this]
   rw [List.getElem_take] at hxe
   rw [← hxe]
   simp [show i < zs.length by omega]
theorem wf_u8 {n : Int} (h : (Lit.int .u8 n).wf = true) : 0 ≤ n ∧ n < 256 := by
 simp only [Lit.wf, Bool.and_eq_true, decide_eq_true_eq] at h
 have h1 : IntKind.u8.min = 0 := by decide
 have h2 : IntKind.u8.max = 255 := by decide
 omega
theorem open_bytes {t e : TypeId} {v : Value} {d : DataW H} {p : List MemPlace} (ht : P.underlying t = some (.slice e)) (he : P.underlying e = some (.int .u8)) (hc : P.cellsOf e = 1) {r : Reach} {b0 : Nat} (hv : Value.okWide P w r b0 t v)
   (h : DataW.Trod enc P w base spare held t v d p) : ∃ l : List Int, l.length ≤ 9223372036854775807 ∧ (∀ n ∈ l, 0 ≤ n ∧ n < 256) ∧ ∀ β, AvR β (Was w) w (.c (.lf (.ints .u8 l))) v := by
 obtain ⟨a, n, c, rfl⟩ := okWide_slice ht hv
 obtain ⟨fuel, h⟩ := h
 simp only [Value.cells] at h
 obtain ⟨l, h1, h2, h3⟩ := open_row ht he hc h
 exact ⟨l, h1, fun n hn => wf_u8 (h2 n hn), fun β => .c (.lf h3)⟩
theorem open_ints1 {t e : TypeId} {k : IntKind} {v : Value} {d : DataW H} {p : List MemPlace} (ht : P.underlying t = some (.slice e)) (he : P.underlying e = some (.int k)) (hc : P.cellsOf e = 1) {r : Reach} {b0 : Nat} (hv : Value.okWide P w r b0 t v)
   (h : DataW.Trod enc P w base spare held t v d p) : ∃ l : List Int, l.length ≤ 9223372036854775807 ∧ (∀ n ∈ l, (Lit.int k n).wf = true) ∧ ∀ β, AvR β (Was w) w (.c (.lf (.ints k l))) v := by
 obtain ⟨a, n, c, rfl⟩ := okWide_slice ht hv
 obtain ⟨fuel, h⟩ := h
 simp only [Value.cells] at h
 obtain ⟨l, h1, h2, h3⟩ := open_row ht he hc h
 exact ⟨l, h1, h2, fun β => .c (.lf h3)⟩
theorem Ct.calls {f : FuncId} {args : List Av} (h : Ct P f args [] (.c (.lf (.v (.bool true)))) [] []) (w : World) (vs : List Value) (hl : vs.length = args.length) (ha : ∀ (i : Nat) (x : Av) (v : Value), args[i]? = some x → vs[i]? = some v → AvR (fun _ => none) (Was w) w x v) :
   Calls P f vs.toArray w fun e w' => e = .returned (.bool true) ∧ Below w.heap.size w w' := by
 refine (h.2.2 w (fun _ => none) (Was w) vs hl ha (fun i b h => by simp at h) (fun i j g h => absurd h (Nat.not_lt_zero _)) (fun j g h => absurd h (Nat.not_lt_zero _)) (fun _ _ => rfl) (fun b hb => hb)).mono fun e w' hq => ?_
 obtain ⟨v, β', F', rfl, hr, _, _, ho⟩ := hq
 refine ⟨?_, ?_⟩
 · cases hr with | c hr => cases hr with | lf hr => cases hr with | v x h => rfl
 · have hk := ho.keep
   exact ⟨hk.os, hk.tape, hk.output, hk.size, fun k hk' => hk.block k hk' (by rintro ⟨i, hi, _⟩; exact absurd hi (Nat.not_lt_zero _))⟩
end
end Go.Sx

namespace Go.Proofs.YtohfhephkjihfaaDoor
set_option linter.unusedSimpArgs false
set_option linter.unusedVariables false
open Go.Sx
set_option maxRecDepth 10000
theorem get_mid (a c : List Int) (x : Int) : (a ++ (x :: c)).getD a.length 0 = x := by
 rw [List.getD_eq_getElem?_getD, List.getElem?_append_right (Nat.le_refl _), Nat.sub_self]; rfl
theorem mid_assoc (a c : List Int) (x : Int) : a ++ (x :: c) = (a ++ [x]) ++ c := by simp
theorem mid_len (a : List Int) (x : Int) : (a ++ [x]).length = a.length + 1 := by simp
theorem numP_one (a c : List Int) (x n : Int) (k : Nat) : numP (a ++ (x :: c)) (k + 1) a.length n = if k = 2 ∧ x = 128 then (0, a.length + 1, 4) else if x < 128 then
     if 128 * n + x % 128 < 31 then (0, a.length + 1, 4) else (128 * n + x % 128, a.length + 1, 0)
   else numP ((a ++ [x]) ++ c) k (a ++ [x]).length (128 * n + x % 128) := by
 rw [numP, if_pos (by simp), get_mid, mid_len, ← mid_assoc]
theorem numP_refD (a c : List Int) (n : Int) (h1 : 31 ≤ n) (h2 : n < 2097152) : numP (a ++ (refD n ++ c)) 3 a.length 0 = (n, a.length + (refD n).length, 0) := by
 unfold refD
 by_cases p : 16384 ≤ n
 · rw [if_pos p, if_pos (by omega)]
   show numP (a ++ ((128 + n / 16384) :: ((128 + n / 128 % 128) :: ((n % 128) :: c)))) 3 a.length 0 = _
   rw [numP_one, if_neg (by omega), if_neg (by omega), numP_one, if_neg (by omega), if_neg (by omega), numP_one, if_neg (by omega), if_pos (by omega), if_neg (by omega)]
   have : 128 * (128 * (128 * 0 + (128 + n / 16384) % 128) + (128 + n / 128 % 128) % 128) + n % 128 % 128 = n := by omega
   rw [this]
   simp
 · rw [if_neg p]
   by_cases q : 128 ≤ n
   · rw [if_pos q]
     show numP (a ++ ((128 + n / 128 % 128) :: ((n % 128) :: c))) 3 a.length 0 = _
     rw [numP_one, if_neg (by omega), if_neg (by omega), numP_one, if_neg (by omega), if_pos (by omega), if_neg (by omega)]
     have : 128 * (128 * 0 + (128 + n / 128 % 128) % 128) + n % 128 % 128 = n := by omega
     rw [this]
     simp
   · rw [if_neg q]
     show numP (a ++ ((n % 128) :: c)) 3 a.length 0 = _
     rw [numP_one, if_neg (by omega), if_pos (by omega), if_neg (by omega)]
     have : 128 * 0 + n % 128 % 128 = n := by omega
     rw [this]
     simp
theorem tagP_at (a c : List Int) (t : TagP) (h : rightT t = true) : tagP (a ++ (tgL t ++ c)) a.length = (t, a.length + (tgL t).length, 0) := by
 obtain ⟨k, n, m⟩ := t
 have hr : 0 ≤ k ∧ k ≤ 3 ∧ 0 ≤ n ∧ n < 2097152 := by simp [rightT] at h; omega
 have hf : firstI (k, n, m) = 64 * k + cond m 32 0 := rfl
 have hm : cond m (32 : Int) 0 = if m = true then 32 else 0 := by cases m <;> rfl
 have hm2 : (decide (cond m (32 : Int) 0 = 32)) = m := by cases m <;> rfl
 have hmb : cond m (32 : Int) 0 = 0 ∨ cond m (32 : Int) 0 = 32 := by cases m <;> simp
 unfold tgL
 dsimp only
 rw [hf]
 generalize hg : cond m (32 : Int) 0 = g at *
 by_cases hn : n < 31
 · rw [if_pos hn]
   show tagP (a ++ ((64 * k + g + n) :: c)) a.length = _
   unfold tagP rawT
   rw [if_pos (by simp), get_mid, if_neg (by omega)]
   have e1 : (64 * k + g + n) / 64 = k := by omega
   have e2 : (64 * k + g + n) % 32 = n := by omega
   have e3 : decide ((64 * k + g + n) / 32 % 2 = 1) = m := by
     rw [← hm2, decide_eq_decide]
     omega
   rw [e1, e2, e3]
   rfl
 · rw [if_neg hn]
   have hR := refD_eq n.toNat (by omega) (by omega)
   rw [show ((n.toNat : Nat) : Int) = n by omega] at hR
   rw [← hR]
   show tagP (a ++ ((64 * k + g + 31) :: (refD n ++ c))) a.length = _
   unfold tagP rawT
   rw [if_pos (by simp), get_mid, if_pos (by omega)]
   have e1 : (64 * k + g + 31) / 64 = k := by omega
   have e3 : decide ((64 * k + g + 31) / 32 % 2 = 1) = m := by
     rw [← hm2, decide_eq_decide]
     omega
   rw [e1, e3, mid_assoc, ← mid_len a (64 * k + g + 31), numP_refD _ _ _ (by omega) (by omega)]
   simp [keepP]
   omega
theorem lenP_at (a c : List Int) (n : Nat) (h : n ≤ 16777216) (hc : n ≤ c.length ∨ True) : lenP (a ++ (lenL n ++ c)) a.length = ((n : Int), a.length + (lenL n).length, 0) := by
 rw [← refLen_eq n h]
 unfold refLenL
 have key : ∀ (x : Int) (D : List Int), 128 < x → x = 128 + D.length → D.length ≤ 4 → D.getD 0 0 ≠ 0 → 128 ≤ valA 0 D → valA 0 D ≤ 16777216 → lenP (a ++ (x :: (D ++ c))) a.length = (valA 0 D, a.length + 1 + D.length, 0) := by
   intro x D hx hx2 hD h0 h1 h2
   have e1 : (a ++ (x :: (D ++ c))).getD (a.length + 1) 0 = D.getD 0 0 := by
     rw [mid_assoc, ← mid_len a x, List.getD_eq_getElem?_getD, List.getElem?_append_right (Nat.le_refl _), Nat.sub_self]
     cases D with
     | nil => exact absurd rfl h0
     | cons y t => rfl
   have e2 : ((a ++ (x :: (D ++ c))).drop (a.length + 1)).take (x % 128).toNat = D := by
     rw [mid_assoc, ← mid_len a x, List.drop_left, show (x % 128).toNat = D.length by omega, List.take_left]
   unfold lenP rawL longP
   rw [if_pos (by simp), get_mid, if_neg (by omega), if_neg (by omega), if_neg (by simp; omega), e1, e2, if_neg (by omega), if_neg (by omega)]
   rw [keepP_ok _ _ _ rfl, show (x % 128).toNat = D.length by omega]
 by_cases p1 : n < 128
 · rw [if_pos (by omega)]
   show lenP (a ++ ((n : Int) :: c)) a.length = _
   unfold lenP rawL
   rw [if_pos (by simp), get_mid, if_pos (by omega)]
   rfl
 rw [if_neg (by omega)]
 by_cases p2 : n < 256
 · rw [if_pos (by omega)]
   have := key 129 [(n : Int)] (by decide) rfl (by simp) (by simp; omega) (by simp [valA]; omega) (by simp [valA]; omega)
   simp only [valA, List.length_cons, List.length_nil, List.cons_append, List.nil_append] at this ⊢
   rw [this]
   simp
 rw [if_neg (by omega)]
 by_cases p3 : n < 65536
 · rw [if_pos (by omega)]
   have := key 130 [(n : Int) / 256, (n : Int) % 256] (by decide) rfl (by simp) (by simp; omega) (by simp [valA]; omega) (by simp [valA]; omega)
   simp only [valA, List.length_cons, List.length_nil, List.cons_append, List.nil_append] at this ⊢
   rw [this]
   simp
   omega
 rw [if_neg (by omega)]
 by_cases p4 : n < 16777216
 · rw [if_pos (by omega)]
   have := key 131 [(n : Int) / 65536, (n : Int) / 256 % 256, (n : Int) % 256] (by decide) rfl (by simp) (by simp; omega) (by simp [valA]; omega) (by simp [valA]; omega)
   simp only [valA, List.length_cons, List.length_nil, List.cons_append, List.nil_append] at this ⊢
   rw [this]
   simp
   omega
 rw [if_neg (by omega)]
 have hn : n = 16777216 := by omega
 subst hn
 have := key 132 [1, 0, 0, 0] (by decide) rfl (by decide) (by decide) (by decide) (by decide)
 exact this
theorem openP_at (a b c : List Int) (t : TagP) (h : rightT t = true) (hb : b.length ≤ 16777216) : openP (a ++ (wrapL t b ++ c)) a.length t = (b, a.length + (wrapL t b).length, 0) := by
 have e0 : wrapL t b ++ c = tgL t ++ (lenL b.length ++ (b ++ c)) := by simp [wrapL]
 have e1 := tagP_at a (lenL b.length ++ (b ++ c)) t h
 have e2 := lenP_at (a ++ tgL t) (b ++ c) b.length hb (.inr trivial)
 have hr : readP (a ++ (tgL t ++ (lenL b.length ++ (b ++ c)))) a.length = ((t, (b.length : Int)), a.length + (tgL t).length + (lenL b.length).length, 0) := by
   unfold readP rawF
   rw [e1]
   dsimp only
   rw [if_pos rfl, ← List.append_assoc, ← List.length_append, e2]
   rfl
 rw [e0]
 unfold openP rawO
 rw [hr]
 dsimp only
 rw [if_pos rfl, if_pos rfl, if_neg (by simp; omega), Int.toNat_natCast]
 rw [keepP_ok _ _ _ rfl]
 have e3 : a ++ (tgL t ++ (lenL b.length ++ (b ++ c))) = (a ++ tgL t ++ lenL b.length) ++ (b ++ c) := by simp
 rw [e3, show a.length + (tgL t).length + (lenL b.length).length = (a ++ tgL t ++ lenL b.length).length by simp [Nat.add_assoc], List.drop_left, List.take_left]
 simp [wrapL]
 omega
theorem wrap_ok (t : TagP) (bs : List (List Int)) (h : rightT t = true) (hbl : bs.length ≤ 100000) (hl : bs.flatten.length ≤ 1000000) :
   Ct Tryd.prog 33 [tagA t, rowsA bs] [] (.tup [B8 (wrapL t bs.flatten), lv (.int .i64 0)]) [] [] :=
 (wrapO_ok t bs h hbl hl).freeze ⟨⟨rfl, rfl, rfl, by simp, by rw [List.drop_zero, List.take_length]⟩, rfl, trivial⟩ rfl
end Go.Proofs.YtohfhephkjihfaaDoor

namespace Go.Sx
open Go
set_option linter.unusedVariables false
set_option linter.unusedSimpArgs false
section
variable {P : Program} {E : Env} {ops : Array Oper} {o : Oper} {σ : St}
theorem opt_lit {t e : TypeId} {n by_ sc K : Nat} {parts : Array (Nat × Operand)} {ps : List Prop} {k : IntKind} {l : List Int} (hop : o.op = .buildSlice t n parts) (hg : o.guard = none) (hdst : o.dst = some sc) (hK : K = nk (some sc) 0)
   (hf : ∀ τ, Like ops o τ σ → litI P e n o.dst (fillA (fun i => some (i * 1, 1)) (List.replicate (n * 1) .un) (parts.toList.map fun (i, x) => (i, ox (fresh τ o.dst) x))) = some (some sc, ps, k, l))
   (hd : dstOk E.n (some sc) = true) (hE : Elt P t e 1 by_) (hz : zeroOk P e) (hp : AllP ps) (hn : n ≤ 16777216 ∧ l.length = n) :
   ∀ τ, Like ops o τ σ → kfr K sc τ → (τ.tm sc).kill K = τ.tm sc → τ.hp K = .gone → OpT P E ops o τ ((τ.seth K (.row (.ints k l))).put o.dst (.c (.own K 1 0 l.length))) := by
 intro τ hl hkf hkc hKg
 refine opT_WL fun Q' hQ => s_litI hop hg (hf τ hl) hd hE hz hp hn ?_
 refine WL_nil fun a w hS => hQ a w (hS.weaken ⟨fun s => ?_, fun j => ?_⟩)
 · rw [hdst, hK]
   show Av.le (if s = sc then _ else (τ.tm s).kill (nk (some sc) 0)) (if s = sc then _ else τ.tm s)
   by_cases e : s = sc
   · rw [if_pos e, if_pos e]; exact .inl rfl
   · rw [if_neg e, if_neg e, ← hK, hkf.1 s e]; exact .inl rfl
 · rw [hdst, hK]
   show Blk.le (if j = nk (some sc) 0 then _ else (match decide (j = nk (some sc) 0) with | true => Blk.gone | false => (τ.hp j).kill (nk (some sc) 0))) (if j = nk (some sc) 0 then _ else τ.hp j)
   by_cases e : j = nk (some sc) 0
   · rw [if_pos e, if_pos e]; exact .inl rfl
   · rw [if_neg e, if_neg e]; simp only [e, decide_false]; rw [← hK, hkf.2 j (by rw [hK]; exact e)]; exact .inl rfl
theorem opt_appendN {t e : TypeId} {by_ : Nat} {c : Call} {x y : Operand} {px qs : List Prop} {K sc su n : Nat} {k : IntKind} {l l2 : List Int} (hop : o.op = .call c) (hc : c.callee = .builtin .append) (ha : c.args.toList = [x, y]) (hty : c.argTypes.toList = [t, t])
   (hg : o.guard = none) (hd : dstOk E.n o.dst = true) (hdst : o.dst = some su) (hE : Elt P t e 1 by_) (hx : ox σ x = (px, .c (.own K 1 0 n))) (hb : σ.hp K = .row (.ints k l)) (hj64 : Nat.ble 64 K = true)
   (hy : ox σ y = (qs, .c (.lf (.ints k l2)))) (hp : AllP (px ++ qs)) (hnl : n = l.length) (hlim : l.length + l2.length ≤ 4294967296 ∧ by_ ≤ 4096) (hnb : E.nb = 0) :
   ∀ τ, Like ops o τ σ → kfr K sc τ → OpT P E ops o τ (((τ.set sc (.c .un)).seth K .gone).put o.dst (.c (.lf (.ints k (l ++ l2))))) := by
 intro τ hl hkf
 have e1 : ox τ x = ox σ x := hl.ox x (by rw [hop]; simp [Op.operands, Call.operands, ha, hc])
 have e2 : ox τ y = ox σ y := hl.ox y (by rw [hop]; simp [Op.operands, Call.operands, ha, hc])
 refine opT_WL fun Q' hQ => ?_
 have hyt : ox τ y = (qs, .c (.lf (.ints k l2))) := by rw [e2]; exact hy
 refine s_appI (dd := some su) hop hc ha hty hg (by rw [hdst]; rfl) (by rw [← hdst]; exact hd) hE (by rw [e1]; exact hx) (by rw [hl.hp]; exact hb) hj64 (l2 := l2) (qs := qs) (by rw [hyt]; rfl) hp hnl hlim ?_
 have etm : ((((τ.kill K).seth K (.row (.ints k (l ++ l2)))).put (some su) (.c (.own K 1 0 (l ++ l2).length)))).tm su = .c (.own K 1 0 (l ++ l2).length) := if_pos rfl
 refine WL_freeze K [(su, .c (.lf (.ints k (l ++ l2))))] (d := .ints k (l ++ l2)) (if_pos rfl) hnb ?_ ?_
 · refine ⟨?_, ?_⟩
   · show FrzA _ _ _ _
     rw [etm]
     exact ⟨rfl, rfl, rfl, by simp, by rw [List.drop_zero, List.length_append, ← List.length_append, List.take_length]⟩
   · show ([(su, Av.c (.lf (.ints k (l ++ l2))))].all fun p => notUn (((((τ.kill K).seth K (.row (.ints k (l ++ l2)))).put (some su) (.c (.own K 1 0 (l ++ l2).length)))).tm p.1)) = true
     simp only [List.all_cons, List.all_nil, etm]
     rfl
 · refine WL_nil fun a w hS => hQ a w (hS.weaken ⟨fun s => ?_, fun j => ?_⟩)
   · rw [hdst]
     show Av.le (if s = su then _ else ((if s = su then _ else (τ.tm s).kill K).kill K)) (if s = su then _ else if s = sc then _ else τ.tm s)
     by_cases e : s = su
     · rw [if_pos e, if_pos e]; exact .inl rfl
     · rw [if_neg e, if_neg e, if_neg e]
       by_cases e2 : s = sc
       · rw [if_pos e2]; exact .inr rfl
       · rw [if_neg e2, hkf.1 s e2, hkf.1 s e2]; exact .inl rfl
   · rw [hdst]
     show Blk.le (match decide (j = K) with | true => Blk.gone | false => (if j = K then _ else (match decide (j = K) with | true => Blk.gone | false => (τ.hp j).kill K)).kill K) (if j = K then _ else τ.hp j)
     by_cases e : j = K
     · rw [if_pos e]; simp only [e, decide_true]; exact .inl rfl
     · rw [if_neg e, if_neg e]; simp only [e, decide_false]
       rw [hkf.2 j e, hkf.2 j e]; exact .inl rfl
theorem str_nil {x y : Av} (h : str x = ([], y)) : x = y := by
 cases x <;> simp_all [str]
end
end Go.Sx
namespace Go.Proofs.YtohfhephkjihfaaDoor
open Go.Sx
set_option maxRecDepth 10000
theorem numbers_ok (a b : Int) (t : List Int) (ha : 0 ≤ a ∧ a ≤ 2) (hb0 : 0 ≤ b ∧ b ≤ 2147483647) (hl : t.length ≤ 1000000) : Ct Tryd.prog 29 [I64 (a :: b :: t)] [] (I64 ((40 * a + b) :: t)) [] [] := by
 refine Ct_intro Tryd.func29 rfl rfl rfl rfl rfl (fun E hn hb => ?_)
 repeat (refine nst ?_)
 refine W_weaken (St.le_of (l := [(0, I64 (a :: b :: t)), (2, lv (.slice none 0 0))]) (h := []) (by refine ⟨?_, ?_⟩ <;> (repeat' (first | exact trivial | exact rfl | refine ⟨?_, ?_⟩)) <;> first | exact rfl | (simp; done) | skip)) ?_
 refine W_drawK (BC := .row (.ints .i64 [40 * a + b])) (oc := .own 75 1 0 1) 75 11 14 8 11 (by kernel_rfl) (by kernel_rfl) (by rw [hn]; rfl) rfl rfl rfl rfl (by kernel_rfl) (by kernel_rfl) rfl rfl (by rw [hb]; decide) rfl (look_kill ⟨rfl, rfl⟩) (look_killB trivial) ?_
 repeat (first | refine DrawK_cons rfl rfl rfl (ops_pure true rfl rfl (by exact vcs)) rfl ?_ | refine DrawK_cons rfl rfl rfl (ops_pureG true rfl rfl rfl (by intro hG; first | trivial | (simp; done) | (simp; omega) | (simp at *; done) | (simp at *; omega))) rfl ?_ | refine DrawK_nil ?_)
 refine DrawK_c rfl rfl (opt_lit (by_ := 8) (ps := []) rfl rfl rfl rfl (fun τ hl => ?_) (by rw [hn]; rfl) (elt_mk Tryd.underlying22 rfl rfl) zok3 trivial ⟨by decide, rfl⟩) ?_
 · have h10 := hl.ox (.tmp 10) (by simp [Op.operands])
   have h11 : τ.tm 10 = lv (.int .i64 (40 * a + b)) := str_nil h10
   show litI Tryd.prog 3 1 (some 11) (fillA (fun i => some (i * 1, 1)) [.un] [(0, str ((τ.tm 10).kill 75))]) = _
   rw [h11]
   rfl
 repeat (first | refine DrawK_cons rfl rfl rfl (ops_pure true rfl rfl (by exact vcs)) rfl ?_ | refine DrawK_cons rfl rfl rfl (ops_pureG true rfl rfl rfl (by intro hG; first | trivial | (simp; done) | (simp; omega) | (simp at *; done) | (simp at *; omega))) rfl ?_ | refine DrawK_nil ?_)
 refine DrawK_u rfl rfl rfl (opt_appendN rfl rfl rfl rfl rfl (by rw [hn]; rfl) rfl (elt_mk Tryd.underlying22 rfl rfl) rfl rfl rfl rfl (by trivial) rfl ⟨by simp; omega, by decide⟩ hb) rfl ?_
 repeat (first | refine DrawK_cons rfl rfl rfl (ops_pure true rfl rfl (by exact vcs)) rfl ?_ | refine DrawK_cons rfl rfl rfl (ops_pureG true rfl rfl rfl (by intro hG; first | trivial | (simp; done) | (simp; omega) | (simp at *; done) | (simp at *; omega))) rfl ?_ | refine DrawK_nil ?_)
 refine WL_nil ?_
 repeat (refine nst ?_)
 refine rt2 [] ?_ ?_
 · rfl
 · trivial
end Go.Proofs.YtohfhephkjihfaaDoor

namespace Go.Proofs.YtohfhephkjihfaaDoor
set_option linter.unusedSimpArgs false
set_option linter.unusedVariables false
open Go.Sx
set_option maxRecDepth 10000
set_option maxHeartbeats 4000000 in
theorem refCmp_ok (a b : List Int) (ha : a.length ≤ 1000000) (hb' : b.length ≤ 1000000) : Ct Tryd.prog 26 [I64 a, I64 b] [] (lv (.int .i64 (cmpL a b))) [] [] := by
 refine Ct_intro Tryd.func26 rfl rfl rfl rfl rfl (fun E hn hb => ?_)
 repeat (refine nst ?_)
 refine W_weaken (St.le_of (l := [(0, I64 a), (1, I64 b), (5, lv (.int .i64 0))]) (h := []) (by refine ⟨?_, ?_⟩ <;> (repeat' (first | exact trivial | exact rfl | refine ⟨?_, ?_⟩)) <;> first | exact rfl | (simp; done) | skip)) ?_
 refine W_loop (ι := {i : Nat // i ≤ 1000000 ∧ cmpL (a.drop i) (b.drop i) = cmpL a b}) (fun i => St.of [(0, I64 a), (1, I64 b), (5, lv (.int .i64 (i.1 : Int)))] []) (fun i => 1000001 - i.1) (fun i => ?_) ⟨0, by omega, rfl⟩
 obtain ⟨i, hi, he⟩ := i
 dsimp only
 repeat (refine nst ?_)
 refine W_cond rfl (by simp) (fun hc => ?_) (fun hc => ?_)
 · simp at hc
   repeat (refine nst ?_)
   refine W_drawW 21 (by kernel_rfl) (by kernel_rfl) (by kernel_rfl) (by rw [hn]; rfl) rfl rfl ?_
   repeat (first | refine dp1 ?_ | refine dg1 ?_ | refine DrawW_nil ?_)
   repeat (refine nst ?_)
   have key : ∀ x : List Int, i < x.length → x.drop i = x.getD i 0 :: x.drop (i + 1) := fun x h => by
     rw [List.drop_eq_getElem_cons h]; simp [h]
   refine W_cond rfl (by simp) (fun hd => ?_) (fun hd => ?_)
   · repeat (refine nst ?_)
     refine rt2 [] ?_ ?_
     · have : cmpL a b = -1 := by
         rw [← he]
         by_cases h1 : i < a.length
         · have h2 : i < b.length ∧ a.getD i 0 < b.getD i 0 := by
             have : ¬ a.length ≤ i := by omega
             simpa [this, Bool.cond_eq_ite] using hd
           rw [key a h1, key b h2.1]
           simp only [cmpL, h2.2, if_true]
         · rw [List.drop_eq_nil_of_le (by omega), key b (by omega)]; rfl
       rw [this]; rfl
     · trivial
   · repeat (refine nst ?_)
     have hia : i < a.length ∧ (i < b.length → ¬ a.getD i 0 < b.getD i 0) := by
       rcases Nat.lt_or_ge i a.length with h | h
       · have : ¬ a.length ≤ i := by omega
         refine ⟨h, fun hib => ?_⟩
         simpa [this, hib, Bool.cond_eq_ite] using hd
       · simp [h, Bool.cond_eq_ite] at hd
     clear hd
     refine W_drawW 15 (by kernel_rfl) (by kernel_rfl) (by kernel_rfl) (by rw [hn]; rfl) rfl rfl ?_
     repeat (first | refine dp1 ?_ | refine dg1 ?_ | refine DrawW_nil ?_)
     repeat (refine nst ?_)
     refine W_cond rfl (by simp) (fun hd => ?_) (fun hd => ?_)
     · repeat (refine nst ?_)
       refine rt2 [] ?_ ?_
       · have : cmpL a b = 1 := by
           rw [← he, key a hia.1]
           by_cases h1 : i < b.length
           · have h2 : b.getD i 0 < a.getD i 0 := by
               have : ¬ b.length ≤ i := by omega
               simpa [this, Bool.cond_eq_ite] using hd
             rw [key b h1]
             simp only [cmpL, hia.2 h1, h2, if_true, if_false]
           · rw [List.drop_eq_nil_of_le (by omega : b.length ≤ i)]; rfl
         rw [this]; rfl
       · trivial
     · repeat (refine nst ?_)
       have h1 : i < b.length ∧ ¬ b.getD i 0 < a.getD i 0 := by
         rcases Nat.lt_or_ge i b.length with h | h
         · have : ¬ b.length ≤ i := by omega
           refine ⟨h, ?_⟩
           simpa [this, Bool.cond_eq_ite] using hd
         · simp [h, Bool.cond_eq_ite] at hd
       (refine N_round ?i1 ?i2 ?i3; (case i1 => exact ⟨i + 1, by omega, by rw [← he, key a hia.1, key b h1.1]; simp only [cmpL, hia.2 h1.1, h1.2, if_false]⟩); (case i2 => (dsimp only; omega)); (case i3 => refine St.le_of ⟨?_, ?_⟩ <;> (repeat' (first | exact trivial | exact rfl | refine ⟨?_, ?_⟩)) <;> first | exact rfl | (simp; done) | skip))
 · repeat (refine nst ?_)
   refine rt2 [] ?_ ?_
   · have : cmpL a b = 0 := by
       rw [← he, List.drop_eq_nil_of_le (by simp at hc; omega), List.drop_eq_nil_of_le (by simp at hc; omega)]; rfl
     rw [this]; rfl
   · trivial
theorem few04_ok (l : List Int) (hl : l.length ≤ 9223372036854775807) : Ct Tryd.prog 10 [I64 l] [] (I64 (l.take 50)) [] [] := by
 refine Ct_intro Tryd.func10 rfl rfl rfl rfl rfl (fun E hn hb => ?_)
 repeat (refine nst ?_)
 have e : (min (l.length : Int) 50).toNat = min 50 l.length := by omega
 refine rt2 [] ?_ ?_
 · show _ = I64 (l.take 50)
   simp
   rw [e]
   omega
 · trivial
end Go.Proofs.YtohfhephkjihfaaDoor

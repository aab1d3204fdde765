/-
  Oids that are read: the document's parser. The conditions: rows of bytes that a machine can hold.
-/
import Derived.Test.YtaagjnlkinojcaaGreatDoorC9
import Derived.Test.YtaagjnlkinojcaaGreatDoorSxN
import Derived.Test.YtaagjnlkinojcaaGreatDoorW16
import Derived.Test.YtaagjnlkinojcaaGreatDoorSxX
import Derived.WalkKit
import Derived.ProofKit
import Derived.OpenShut
import Derived.ShutString
import Derived.ChangeOld
import Derived.Below
import Derived.Lib.SmallJoins
import Derived.Test.YtaagjnlkinojcaaGreatDoorSxM
namespace Go.Proofs.YtaagjnlkinojcaaGreatDoor
set_option linter.unusedSimpArgs false
set_option linter.unusedVariables false
open Go.Sx
set_option maxRecDepth 10000
theorem readP_eq (b : List Int) (p : Nat) : readP b p = if (tagP b p).2.2 = 0 then
   if (lenP b (tagP b p).2.1).2.2 = 0 then (((tagP b p).1, (lenP b (tagP b p).2.1).1), (lenP b (tagP b p).2.1).2.1, 0) else ((tag0, 0), p, (lenP b (tagP b p).2.1).2.2)
   else ((tag0, 0), p, (tagP b p).2.2) := by
 unfold readP rawF keepP
 by_cases h1 : (tagP b p).2.2 = 0
 · rw [if_pos h1, if_pos h1]
   by_cases h2 : (lenP b (tagP b p).2.1).2.2 = 0
   · rw [if_pos h2, if_pos h2, h2]
   · rw [if_neg h2, if_neg h2]
 · rw [if_neg h1, if_neg h1, if_neg h1]
theorem openP_eq (b : List Int) (p : Nat) (t : TagP) : openP b p t = if (readP b p).2.2 = 0 then
   if (readP b p).1.1 = t then
     if (b.length : Int) - ((readP b p).2.1 : Int) < (readP b p).1.2 then ([], p, 3)
     else ((b.drop (readP b p).2.1).take (readP b p).1.2.toNat, (readP b p).2.1 + (readP b p).1.2.toNat, 0)
   else ([], p, 4)
   else ([], p, (readP b p).2.2) := by
 unfold openP rawO keepP
 by_cases h1 : (readP b p).2.2 = 0
 · rw [if_pos h1, if_pos h1]
   repeat' split
   all_goals first | rfl | simp_all
 · rw [if_neg h1, if_neg h1, if_neg h1]
abbrev frR (r : (TagP × Int) × Nat × Int) : Av := .tup [tagA r.1.1, lv (.int .i64 r.1.2), lv (.int .i64 (r.2.1 : Int)), lv (.int .i64 r.2.2)]
theorem refread_ok (l : List Int) (p : Nat) (hp : p ≤ l.length) (hl : l.length ≤ 1000000) (hw : WfB l) : Ct Tryz.prog 41 [B8 l, lv (.int .i64 (p : Int))] [] (frR (readP l p)) [] [] := by
 have hTT := readP_eq l p
 have ht := reftagr_ok l p hp hl hw
 have hnl := reflen_ok l (tagP l p).2.1 (tagP_le l p hp).2 hl hw
 generalize readP l p = R at *
 generalize tagP l p = T at *
 generalize lenP l T.2.1 = N at *
 refine Ct_intro Tryz.func41 rfl rfl rfl rfl rfl (fun E hn hb => ?_)
 repeat (refine nst ?_)
 refine s_allocN rfl rfl rfl (by rw [hn]; rfl) rfl zok62 ?_
 repeat (refine nst ?_)
 refine s_call0 (ht) rfl rfl rfl (by rw [hn]; rfl) rfl rfl (by exact vcs) rfl rfl rfl ?_
 repeat (refine nst ?_)
 refine s_allocN rfl rfl rfl (by rw [hn]; rfl) rfl zok62 ?_
 repeat (refine nst ?_)
 refine s_storeN rfl rfl rfl rfl rfl (by exact vcs) rfl rfl rfl (by rw [cellsOf62]; rfl) (by rw [info62]; rfl) rfl rfl ?_
 repeat (refine nst ?_)
 refine W_cond rfl (by simp) (fun h1 => ?_) (fun h1 => ?_)
 · have h1' : ¬ T.2.2 = 0 := by simpa using h1
   rw [if_neg h1'] at hTT
   subst hTT
   repeat (refine nst ?_)
   refine s_storeN rfl rfl rfl rfl rfl (by exact vcs) rfl rfl rfl (by rw [cellsOf62]; rfl) (by rw [info62]; rfl) rfl rfl ?_
   repeat (refine nst ?_)
   exact rt1 []
 have h1' : T.2.2 = 0 := by simpa using h1
 rw [if_pos h1'] at hTT
 repeat (refine nst ?_)
 refine s_call0 (hnl) rfl rfl rfl (by rw [hn]; rfl) rfl rfl (by exact vcs) rfl rfl rfl ?_
 repeat (refine nst ?_)
 refine W_cond rfl (by simp) (fun h2 => ?_) (fun h2 => ?_)
 · have h2' : ¬ N.2.2 = 0 := by simpa using h2
   rw [if_neg h2'] at hTT
   subst hTT
   repeat (refine nst ?_)
   refine s_storeN rfl rfl rfl rfl rfl (by exact vcs) rfl rfl rfl (by rw [cellsOf62]; rfl) (by rw [info62]; rfl) rfl rfl ?_
   repeat (refine nst ?_)
   exact rt1 []
 have h2' : N.2.2 = 0 := by simpa using h2
 rw [if_pos h2'] at hTT
 subst hTT
 repeat (refine nst ?_)
 refine s_storeN rfl rfl rfl rfl rfl (by exact vcs) rfl rfl rfl (by rw [cellsOf62]; rfl) (by rw [info62]; rfl) rfl rfl ?_
 repeat (refine nst ?_)
 exact rt1 []
abbrev opR (r : List Int × Nat × Int) : Av := .tup [B8 r.1, lv (.int .i64 (r.2.1 : Int)), lv (.int .i64 r.2.2)]
theorem refopen_ok (l : List Int) (p : Nat) (t : TagP) (hp : p ≤ l.length) (hl : l.length ≤ 1000000) (hw : WfB l) : Ct Tryz.prog 38 [B8 l, lv (.int .i64 (p : Int)), tagA t] [] (opR (openP l p t)) [] [] := by
 have hTT := openP_eq l p t
 have hr := refread_ok l p hp hl hw
 have hle := readP_le l p hp
 have hpos := readP_pos l p hw
 generalize openP l p t = R at *
 generalize readP l p = F at *
 refine Ct_intro Tryz.func38 rfl rfl rfl rfl rfl (fun E hn hb => ?_)
 repeat (refine nst ?_)
 refine s_boxN rfl rfl rfl (by rw [hn]; rfl) rfl (by exact vcs) rfl rfl ?_
 repeat (refine nst ?_)
 refine s_call0 (hr) rfl rfl rfl (by rw [hn]; rfl) rfl rfl (by exact vcs) rfl rfl rfl ?_
 repeat (refine nst ?_)
 refine s_allocN rfl rfl rfl (by rw [hn]; rfl) rfl zok62 ?_
 repeat (refine nst ?_)
 refine s_storeN rfl rfl rfl rfl rfl (by exact vcs) rfl rfl rfl (by rw [cellsOf62]; rfl) (by rw [info62]; rfl) rfl rfl ?_
 repeat (refine nst ?_)
 refine W_cond rfl (by simp) (fun h1 => ?_) (fun h1 => ?_)
 · have h1' : ¬ F.2.2 = 0 := by simpa using h1
   rw [if_neg h1'] at hTT
   subst hTT
   repeat (refine nst ?_)
   refine N_retU [] rfl (by simp) (r' := .tup [B8 [], lv (.int .i64 (p : Int)), lv (.int .i64 F.2.2)]) ⟨.inr ⟨rfl, .inl ⟨_, rfl⟩⟩, .inl rfl, .inl rfl, trivial⟩ ⟨rfl, trivial, trivial, rfl⟩ hb rfl trivial
 have h1' : F.2.2 = 0 := by simpa using h1
 rw [if_pos h1'] at hTT
 repeat (refine nst ?_)
 refine WL_q (opq_of (opy_eqS (neg := true) (l := tagC F.1.1) (m := tagC t) rfl structT62 heldT62 (by first | rfl | (rw [cellsOf62]; rfl)) (by first | rfl | (rw [cellsOf62]; rfl)) (by trivial) guardT62 (eqokT62 _ _)) rfl) (by rw [hn]; rfl) ?_
 rw [eqT]
 repeat (refine nst ?_)
 refine W_cond rfl (by simp) (fun h2 => ?_) (fun h2 => ?_)
 · have h2' : ¬ F.1.1 = t := by simpa using h2
   rw [if_neg h2'] at hTT
   subst hTT
   repeat (refine nst ?_)
   refine N_retU [] rfl (by simp) (r' := .tup [B8 [], lv (.int .i64 (p : Int)), lv (.int .i64 4)]) ⟨.inr ⟨rfl, .inl ⟨_, rfl⟩⟩, .inl rfl, .inl rfl, trivial⟩ ⟨rfl, trivial, trivial, rfl⟩ hb rfl trivial
 have h2' : F.1.1 = t := by simpa using h2
 rw [if_pos h2'] at hTT
 repeat (refine nst ?_)
 refine W_cond rfl (by simp) (fun h3 => ?_) (fun h3 => ?_)
 · have h3' : (l.length : Int) - (F.2.1 : Int) < F.1.2 := by simpa using h3
   rw [if_pos h3'] at hTT
   subst hTT
   repeat (refine nst ?_)
   refine N_retU [] rfl (by simp) (r' := .tup [B8 [], lv (.int .i64 (p : Int)), lv (.int .i64 3)]) ⟨.inr ⟨rfl, .inl ⟨_, rfl⟩⟩, .inl rfl, .inl rfl, trivial⟩ ⟨rfl, trivial, trivial, rfl⟩ hb rfl trivial
 have h3' : ¬ (l.length : Int) - (F.2.1 : Int) < F.1.2 := by simpa using h3
 rw [if_neg h3'] at hTT
 obtain ⟨n, hn'⟩ : ∃ n : Nat, F.1.2 = (n : Int) := ⟨F.1.2.toNat, by omega⟩
 rw [hn', Int.toNat_natCast] at hTT
 subst hTT
 clear h3
 rw [hn'] at h3' hpos
 repeat (refine nst ?_)
 rw [hn']
 repeat (refine nst ?_)
 refine rt2 [] ?_ ?_
 · show Av.tup [B8 ((List.take ((F.2.1 : Int) + (n : Int)).toNat l).drop (F.2.1 : Int).toNat), lv (.int .i64 ((F.2.1 : Int) + (n : Int))), lv (.int .i64 0)] = _
   rw [show ((F.2.1 : Int) + (n : Int)) = ((F.2.1 + n : Nat) : Int) by omega, Int.toNat_natCast, Int.toNat_natCast, List.drop_take, Nat.add_sub_cancel_left]
   rfl
 · trivial

def oidR (l : List Int) (p : Nat) : List Int × Nat × Int :=
 let r := openP l p (ofT 6)
 if r.2.2 = 0 then (let x := oidP r.1; if x.2 = 0 then (x.1, r.2.1, 0) else ([], p, x.2)) else ([], p, r.2.2)
theorem oread_ok (l : List Int) (p : Nat) (hp : p ≤ l.length) (hl : l.length ≤ 1000000) (hw : WfB l) : Ct Tryz.prog 35 [.c (.ptr 0 0)] [curB l p] (.tup [I64 (oidR l p).1, lv (.int .i64 (oidR l p).2.2)]) [curB l (oidR l p).2.1] [] := by
 have hat := at_ok l p
 have hho := headof_ok 6
 have hop := open_ok l p (ofT 6) hp hl hw
 have hoe := open_err l p (ofT 6) hp hl hw
 have hle := openP_le l p (ofT 6) hp
 have hmem := openP_mem l p (ofT 6)
 unfold oidR
 generalize openP l p (ofT 6) = X at *
 obtain ⟨x, q, e⟩ := X
 dsimp only at *
 by_cases he : e = 0
 · subst he
   have hop := hop rfl
   rw [if_pos rfl]
   have hre := rest_ok x 0 (Nat.zero_le _) (by omega)
   rw [List.drop_zero] at hre
   have hpa := oparse_ok x (by omega) (fun y hy => hw y (hmem.2 y hy))
   have hbk := back_ok l q p hle.1 (by omega)
   generalize oidP x = Y at *
   obtain ⟨o, f⟩ := Y
   dsimp only at *
   by_cases hf : f = 0
   · subst hf
     rw [if_pos rfl]
     refine Ct_intro Tryz.func35 rfl rfl rfl rfl rfl (fun E hn hb => ?_)
     repeat refine nx ?_
     exact rtU []
   · rw [if_neg hf]
     refine Ct_intro Tryz.func35 rfl rfl rfl rfl rfl (fun E hn hb => ?_)
     repeat refine nx ?_
     exact rtU []
 · have hoe := hoe he
   rw [if_neg he]
   refine Ct_intro Tryz.func35 rfl rfl rfl rfl rfl (fun E hn hb => ?_)
   repeat refine nx ?_
   exact rtU []
theorem oidR_le (l : List Int) (p : Nat) (hp : p ≤ l.length) : p ≤ (oidR l p).2.1 ∧ (oidR l p).2.1 ≤ l.length := by
 have h := openP_le l p (ofT 6) hp
 unfold oidR
 dsimp only
 split
 · split
   · exact h
   · exact ⟨Nat.le_refl _, hp⟩
 · exact ⟨Nat.le_refl _, hp⟩

def lowD (m : Nat) : Nat → Nat → List Int
 | 0, _ => []
 | k + 1, n => if n = 0 then [] else ((n % m : Nat) : Int) :: lowD m k (n / m)

def firstI (t : TagP) : Int := 64 * t.1 + cond t.2.2 32 0
def hiL (D : List Int) : List Int := (D.take (D.length - 1)).map (· + 128) ++ D.drop (D.length - 1)
def tgL (t : TagP) : List Int := if t.2.1 < 31 then [firstI t + t.2.1] else (firstI t + 31) :: hiL (lowD 128 5 t.2.1.toNat).reverse
def lenL (n : Nat) : List Int := if n < 128 then [(n : Int)] else (128 + ((lowD 256 5 n).length : Int)) :: (lowD 256 5 n).reverse

def wrapL (t : TagP) (b : List Int) : List Int := tgL t ++ lenL b.length ++ b

def refD (n : Int) : List Int := (if 16384 ≤ n then [128 + n / 16384] else []) ++ (if 128 ≤ n then [128 + n / 128 % 128] else []) ++ [n % 128]
theorem refD_eq (n : Nat) (h1 : 31 ≤ n) (h2 : n < 2097152) : refD (n : Int) = hiL (lowD 128 5 n).reverse := by
 have e : lowD 128 5 n = ((n % 128 : Nat) : Int) :: lowD 128 4 (n / 128) := by rw [lowD, if_neg (by omega)]
 by_cases a : n < 128
 · have e1 : lowD 128 4 (n / 128) = [] := by rw [lowD, if_pos (by omega)]
   rw [e, e1]
   simp only [refD, hiL]
   rw [if_neg (by omega), if_neg (by omega)]
   simp
 · have e1 : lowD 128 4 (n / 128) = ((n / 128 % 128 : Nat) : Int) :: lowD 128 3 (n / 128 / 128) := by rw [lowD, if_neg (by omega)]
   by_cases b : n < 16384
   · have e2 : lowD 128 3 (n / 128 / 128) = [] := by rw [lowD, if_pos (by omega)]
     rw [e, e1, e2]
     simp only [refD, hiL]
     rw [if_neg (by omega), if_pos (by omega)]
     simp
     omega
   · have e2 : lowD 128 3 (n / 128 / 128) = ((n / 128 / 128 % 128 : Nat) : Int) :: lowD 128 2 (n / 128 / 128 / 128) := by rw [lowD, if_neg (by omega)]
     have e3 : lowD 128 2 (n / 128 / 128 / 128) = [] := by rw [lowD, if_pos (by omega)]
     rw [e, e1, e2, e3]
     simp only [refD, hiL]
     rw [if_pos (by omega), if_pos (by omega)]
     simp
     omega
def refLenL (n : Int) : List Int :=
 if n < 128 then [n] else if n < 256 then [129, n] else if n < 65536 then [130, n / 256, n % 256] else if n < 16777216 then [131, n / 65536, n / 256 % 256, n % 256]
 else [132, n / 16777216, n / 65536 % 256, n / 256 % 256, n % 256]
theorem refLen_eq (n : Nat) (h : n ≤ 16777216) : refLenL (n : Int) = lenL n := by
 unfold refLenL lenL
 by_cases a : n < 128
 · rw [if_pos (by omega), if_pos a]
 rw [if_neg (by omega), if_neg a]
 have e : lowD 256 5 n = ((n % 256 : Nat) : Int) :: lowD 256 4 (n / 256) := by rw [lowD, if_neg (by omega)]
 by_cases b : n < 256
 · have e1 : lowD 256 4 (n / 256) = [] := by rw [lowD, if_pos (by omega)]
   rw [e, e1, if_pos (by omega)]
   simp
   omega
 rw [if_neg (by omega)]
 have e1 : lowD 256 4 (n / 256) = ((n / 256 % 256 : Nat) : Int) :: lowD 256 3 (n / 256 / 256) := by rw [lowD, if_neg (by omega)]
 by_cases c : n < 65536
 · have e2 : lowD 256 3 (n / 256 / 256) = [] := by rw [lowD, if_pos (by omega)]
   rw [e, e1, e2, if_pos (by omega)]
   simp
   omega
 rw [if_neg (by omega)]
 have e2 : lowD 256 3 (n / 256 / 256) = ((n / 256 / 256 % 256 : Nat) : Int) :: lowD 256 2 (n / 256 / 256 / 256) := by rw [lowD, if_neg (by omega)]
 by_cases d : n < 16777216
 · have e3 : lowD 256 2 (n / 256 / 256 / 256) = [] := by rw [lowD, if_pos (by omega)]
   rw [e, e1, e2, e3, if_pos (by omega)]
   simp
   omega
 rw [if_neg (by omega)]
 have hn : n = 16777216 := by omega
 subst hn
 decide
end Go.Proofs.YtaagjnlkinojcaaGreatDoor

namespace Go.Sx
open Go
open Go.ChangeShapes Go.WideShapes Go.ChangeAt Go.RowKit Go.Joins Go.Deep
set_option linter.unusedVariables false
abbrev Was (w : World) : Nat → Prop := fun b => b < w.heap.size
theorem cell_in {w : World} {a : Addr} {v : Value} (h : w.cell? a = some v) : a.block < w.heap.size ∧ a.spot = none := by
 unfold World.cell? at h
 split at h
 · rename_i c e m hb
   refine ⟨(Array.getElem?_eq_some_iff.1 hb).1, ?_⟩
   split at h
   · cases h
   · rename_i hs; simpa using hs
 · cases h
section
variable {H : Type} {enc : TypeId × Value → H} {P : Program} {w : World} {base : Nat} {spare : Nat → Bool} {held : Bool} {fuel : Nat}
theorem open_row {t e : TypeId} {k : IntKind} {v : Value} {x : DataW H × List MemPlace} (ht : P.underlying t = some (.slice e)) (he : P.underlying e = some (.int k)) (hc : P.cellsOf e = 1)
   (h : DataW.trod enc P w base spare held fuel t [v] = some x) : ∃ l : List Int, l.length ≤ 9223372036854775807 ∧ (∀ n ∈ l, (Lit.int k n).wf = true) ∧ LfR (Was w) w (.ints k l) v := by
 rcases open_ints ht he hc h with ⟨hcs, _⟩ | ⟨a, len, cap, zs, hcs, _, hl, hm, hz, _, hcell, hw⟩
 · simp at hcs
   subst hcs
   refine ⟨[], Nat.zero_le _, ?_, LfR.ints _ _ _ _ _ rfl (Nat.le_refl _) (Nat.zero_le _) (fun h => absurd rfl h)⟩
   intro n hn
   cases hn
 · simp at hcs
   subst hcs
   have hlz : len ≤ zs.length := by rw [hz]; split <;> omega
   have hlt : (zs.take len).length = len := by simp; omega
   have hm' : cap ≤ 9223372036854775807 := hm
   refine ⟨zs.take len, by omega, fun n hn => hw n (List.mem_of_mem_take hn), LfR.ints _ _ _ _ _ hlt.symm hl hm fun hne => ?_⟩
   have h0 : 0 < len := by
     rcases Nat.eq_zero_or_pos len with h | h
     · subst h; simp at hne
     · exact h
   have hb := cell_in (hcell 0 (by omega))
   obtain ⟨b, o, sp⟩ := a
   simp only [Addr.add, if_true] at hb
   obtain ⟨hb1, hsp⟩ := hb
   subst hsp
   have hadd : ∀ i, (⟨b, o, none⟩ : Addr).add i = ⟨b, o + i, none⟩ := by
     intro i
     unfold Addr.add
     split
     · rename_i h; subst h; rfl
     · rfl
   refine ⟨b, o, rfl, hb1, fun i x hx => ?_⟩
   obtain ⟨hi, hxe⟩ := List.getElem?_eq_some_iff.1 hx
   rw [hlt] at hi
   have := hcell i (by omega)
   rw [hadd] at this
   rw [this]
   rw [List.getElem_take] at hxe
   rw [← hxe]
   simp [show i < zs.length by omega]
theorem wf_u8 {n : Int} (h : (Lit.int .u8 n).wf = true) : 0 ≤ n ∧ n < 256 := by
 simp only [Lit.wf, Bool.and_eq_true, decide_eq_true_eq] at h
 have h1 : IntKind.u8.min = 0 := by decide
 have h2 : IntKind.u8.max = 255 := by decide
 omega
theorem open_bytes {t e : TypeId} {v : Value} {d : DataW H} {p : List MemPlace} (ht : P.underlying t = some (.slice e)) (he : P.underlying e = some (.int .u8)) (hc : P.cellsOf e = 1) {r : Reach} {b0 : Nat} (hv : Value.okWide P w r b0 t v)
   (h : DataW.Trod enc P w base spare held t v d p) : ∃ l : List Int, l.length ≤ 9223372036854775807 ∧ (∀ n ∈ l, 0 ≤ n ∧ n < 256) ∧ ∀ β, AvR β (Was w) w (.c (.lf (.ints .u8 l))) v := by
 obtain ⟨a, n, c, rfl⟩ := okWide_slice ht hv
 obtain ⟨fuel, h⟩ := h
 simp only [Value.cells] at h
 obtain ⟨l, h1, h2, h3⟩ := open_row ht he hc h
 exact ⟨l, h1, fun n hn => wf_u8 (h2 n hn), fun β => .c (.lf h3)⟩
theorem Ct.calls {f : FuncId} {args : List Av} (h : Ct P f args [] (.c (.lf (.v (.bool true)))) [] []) (w : World) (vs : List Value) (hl : vs.length = args.length) (ha : ∀ (i : Nat) (x : Av) (v : Value), args[i]? = some x → vs[i]? = some v → AvR (fun _ => none) (Was w) w x v) (hgd : GdK w (fun _ => False) := by exact fun p hp => nomatch hp) :
   Calls P f vs.toArray w fun e w' => e = .returned (.bool true) ∧ Below w.heap.size w w' := by
 refine (h.2.2 w (fun _ => none) (Was w) vs hl ha (fun i b h => by simp at h) (fun i j g h => absurd h (Nat.not_lt_zero _)) (fun j g h => absurd h (Nat.not_lt_zero _)) (fun _ _ => rfl) (fun b hb => hb) (fun p hp => ⟨by rintro ⟨i, hi, _⟩; exact absurd hi (Nat.not_lt_zero _), (hgd p hp).2⟩)).mono fun e w' hq => ?_
 obtain ⟨v, β', F', rfl, hr, _, _, ho⟩ := hq
 refine ⟨?_, ?_⟩
 · cases hr with | c hr => cases hr with | lf hr => cases hr with | v x h => rfl
 · have hk := ho.keep
   exact ⟨hk.os, hk.tape, hk.output, hk.size, fun k hk' => hk.block k hk' (by rintro ⟨i, hi, _⟩; exact absurd hi (Nat.not_lt_zero _))⟩
end
end Go.Sx

namespace Go.Proofs.YtaagjnlkinojcaaGreatDoor
set_option linter.unusedSimpArgs false
set_option linter.unusedVariables false
open Go.Sx
set_option maxRecDepth 10000
def decV (d : List Int) : Nat := d.foldl (fun a x => 10 * a + (x - 48).toNat) 0
theorem decV_snoc (d : List Int) (x : Int) : decV (d ++ [x]) = 10 * decV d + (x - 48).toNat := by simp [decV]
def isDig (x : Int) : Bool := decide (48 ≤ x) && decide (x ≤ 57)
theorem decV_decL : ∀ (k n : Nat), n ≤ k → decV (decL n).reverse = n
 | 0, n, h => by
   have : n = 0 := by omega
   subst this; rw [decL_zero]; rfl
 | k + 1, n, h => by
   by_cases h0 : n = 0
   · subst h0; rw [decL_zero]; rfl
   · rw [decL_pos h0, List.reverse_cons, decV_snoc, decV_decL k (n / 10) (by omega)]
     omega
theorem decL_isDig : ∀ (k n : Nat), n ≤ k → (decL n).all isDig = true
 | 0, n, h => by
   have : n = 0 := by omega
   subst this; rw [decL_zero]; rfl
 | k + 1, n, h => by
   by_cases h0 : n = 0
   · subst h0; rw [decL_zero]; rfl
   · rw [decL_pos h0, List.all_cons, decL_isDig k (n / 10) (by omega)]
     simp [isDig]; omega
theorem decL_last : ∀ (k n : Nat), n ≤ k → n ≠ 0 → ∃ a x, decL n = a ++ [x] ∧ 49 ≤ x ∧ x ≤ 57
 | 0, n, h, h0 => by omega
 | k + 1, n, h, h0 => by
   by_cases h1 : n / 10 = 0
   · refine ⟨[], 48 + ((n % 10 : Nat) : Int), ?_, by omega, by omega⟩
     rw [decL_pos h0, h1, decL_zero]; rfl
   · obtain ⟨a, x, e, h2⟩ := decL_last k (n / 10) (by omega) h1
     exact ⟨(48 + ((n % 10 : Nat) : Int)) :: a, x, by rw [decL_pos h0, e]; rfl, h2⟩
theorem bs_str {l : List Int} (h : WfB l) : bs (strOfNums l) = l := by
 simp only [bs, strOfNums_data, List.map_map]
 conv => rhs; rw [← List.map_id l]
 apply List.map_congr_left
 intro x hx
 have := h x hx
 simp only [Function.comp]
 rw [UInt8.toNat_ofNat']
 simp only [id]
 omega

@[simp] theorem size_str (l : List Int) : (strOfNums l).size = l.length := strOfNums_size l
end Go.Proofs.YtaagjnlkinojcaaGreatDoor

namespace Go.Proofs.YtaagjnlkinojcaaGreatDoor
set_option linter.unusedSimpArgs false
set_option linter.unusedVariables false
open Go.Sx
set_option maxRecDepth 10000
def tw2 (n : Int) : List Int := [48 + n / 10 % 10, 48 + n % 10]
@[simp] theorem tw2_len (n : Int) : (tw2 n).length = 2 := rfl
end Go.Proofs.YtaagjnlkinojcaaGreatDoor

namespace Go.Proofs.YtaagjnlkinojcaaGreatDoor
set_option linter.unusedSimpArgs false
set_option linter.unusedVariables false
open Go.Sx
set_option maxRecDepth 10000
def stA (l : List Int) (i : Nat) (n : Int) (f : Bool) (o : List Int) : List Int × Int :=
 if i < l.length then
   (if (nxA (l.drop i) i n f).2.1 = 0 then (if o.length = 32 then ([], 2) else prA (l.length + 1) l (nxA (l.drop i) i n f).2.2 (o ++ (if o.length = 0 then splA (nxA (l.drop i) i n f).1 else [(nxA (l.drop i) i n f).1]))) else ([], (nxA (l.drop i) i n f).2.1))
 else (o, 0)
theorem stA_new (l : List Int) (i : Nat) (o : List Int) : stA l i 0 true o = prA (l.length + 1) l i o := by
 unfold stA
 by_cases h : i < l.length
 · rw [if_pos h]
   conv => rhs; unfold prA
   rw [if_pos h]
   dsimp only
   have hn := (nxA_le (l.drop i) i 0 true).2.2 (by rw [drop_at l i h]; simp)
   split
   · split
     · rfl
     · exact prA_fuel l _ _ _ _ (by omega) (by omega)
   · rfl
 · rw [if_neg h]
   unfold prA
   rw [if_neg h]
set_option maxHeartbeats 8000000 in
theorem roparse_ok (l : List Int) (hl : l.length ≤ 1000000) (hw : WfB l) : Ct Tryz.prog 81 [B8 l] [] (.tup [I64 (oidP l).1, lv (.int .i64 (oidP l).2)]) [] [] := by
 by_cases h0 : l = []
 · subst h0
   have e2 : oidP [] = ([], 6) := rfl
   rw [e2]
   refine Ct_intro Tryz.func81 rfl rfl rfl rfl rfl (fun E hn hb => ?_)
   repeat refine nx ?_
   exact rtU []
 obtain ⟨R, hR⟩ : ∃ R, oidP l = R := ⟨_, rfl⟩
 rw [hR]
 unfold oidP at hR
 rw [if_neg h0, ← stA_new] at hR
 obtain ⟨ro, re⟩ := R
 dsimp only
 refine Ct_intro Tryz.func81 rfl rfl rfl rfl rfl (fun E hn hb => ?_)
 repeat refine nx ?_
 refine W_own_nil 4 900 1 (.ints .i64 []) rfl rfl (.inr (.inl ⟨_, rfl⟩)) ?_
 refine W_weaken (St.le_of (l := [(0, B8 l), (4, .c (.own 900 1 0 ([] : List Int).length)), (5, lv (.int .i64 0)), (6, lv (.bool true)), (7, lv (.int .i64 ((0 : Nat) : Int)))]) (h := [(900, .row (.ints .i64 []))]) (by refine ⟨?_, ?_⟩ <;> (repeat' (first | exact trivial | exact rfl | refine ⟨?_, ?_⟩)) <;> first | exact rfl | (simp; done) | skip)) ?_
 refine W_loop (ι := {s : Nat × Int × Bool × List Int // s.1 ≤ l.length ∧ 0 ≤ s.2.1 ∧ s.2.1 ≤ 2147483647 ∧ (s.2.2.1 = false → s.1 < l.length) ∧ s.2.2.2.length ≤ 32 ∧ stA l s.1 s.2.1 s.2.2.1 s.2.2.2 = (ro, re)}) (fun s => St.of [(0, B8 l), (4, .c (.own 900 1 0 s.1.2.2.2.length)), (5, lv (.int .i64 s.1.2.1)), (6, lv (.bool s.1.2.2.1)), (7, lv (.int .i64 (s.1.1 : Int)))] [(900, .row (.ints .i64 s.1.2.2.2))]) (fun s => l.length - s.1.1) (fun s => ?_) ⟨(0, 0, true, []), Nat.zero_le _, by simp, by simp, by simp, by simp, hR⟩
 obtain ⟨⟨i, n, f, o⟩, k1, k2, k3, k4, k5, k6⟩ := s
 dsimp only
 simp only at k1 k2 k3 k4 k5 k6
 by_cases hi : i < l.length
 · unfold stA at k6
   rw [if_pos hi, drop_at l i hi] at k6
   have hx := wf_at hw i
   unfold nxA at k6
   obtain ⟨x, hx1⟩ : ∃ x, l.getD i 0 = x := ⟨_, rfl⟩
   have hx2 : l.getD (i : Int).toNat 0 = x := by rw [Int.toNat_natCast]; exact hx1
   rw [hx1] at k6 hx
   have hm : 0 ≤ x % 128 ∧ x % 128 < 128 := by omega
   by_cases c1 : f = true ∧ x = 128
   · rw [if_pos c1, if_neg (by simp)] at k6
     simp only [Prod.mk.injEq] at k6
     obtain ⟨rfl, rfl⟩ := k6
     obtain ⟨rfl, rfl⟩ := c1
     repeat (first | refine nx ?_ | rw [hx2])
     exact rtU []
   · rw [if_neg c1] at k6
     have c1' : f = true → ¬ x = 128 := fun h h' => c1 ⟨h, h'⟩
     clear c1
     cases f
     case' false => clear c1'
     case' true => replace c1' := c1' rfl
     all_goals
       by_cases c2 : 2147483647 < 128 * n + x % 128
       · rw [if_pos c2, if_neg (by simp)] at k6
         simp only [Prod.mk.injEq] at k6
         obtain ⟨rfl, rfl⟩ := k6
         repeat (first | refine nx ?_ | rw [hx2])
         exact rtU []
       · rw [if_neg c2] at k6
         by_cases c3 : x < 128
         · rw [if_pos c3, if_pos (by rfl)] at k6
           by_cases h32 : o.length = 32
           · rw [if_pos h32] at k6
             simp only [Prod.mk.injEq] at k6
             obtain ⟨rfl, rfl⟩ := k6
             repeat (first | refine nx ?_ | rw [hx2])
             exact rtU []
           · rw [if_neg h32, ← stA_new] at k6
             by_cases ho : o.length = 0
             · rw [if_pos ho] at k6
               obtain rfl := List.eq_nil_of_length_eq_zero ho
               unfold splA at k6
               by_cases d1 : 128 * n + x % 128 < 80
               · rw [if_pos d1] at k6
                 by_cases d2 : 128 * n + x % 128 < 40
                 · rw [show (128 * n + x % 128) / 40 = 0 by omega, show (128 * n + x % 128) % 40 = 128 * n + x % 128 by omega] at k6
                   repeat (first | refine nx ?_ | rw [hx2])
                   refine N_round ⟨(i + 1, 0, true, [] ++ [0, 128 * n + x % 128]), by dsimp only; omega, by simp, by simp, by simp, by simp, k6⟩ (by dsimp only; omega) (St.le_of ⟨⟨rfl, rfl, rfl, rfl, rfl⟩, rfl⟩)
                 · rw [show (128 * n + x % 128) / 40 = 1 by omega, show (128 * n + x % 128) % 40 = 128 * n + x % 128 - 40 by omega] at k6
                   repeat (first | refine nx ?_ | rw [hx2])
                   refine N_round ⟨(i + 1, 0, true, [] ++ [1, 128 * n + x % 128 - 40]), by dsimp only; omega, by simp, by simp, by simp, by simp, k6⟩ (by dsimp only; omega) (St.le_of ⟨⟨rfl, rfl, rfl, rfl, rfl⟩, rfl⟩)
               · rw [if_neg d1] at k6
                 repeat (first | refine nx ?_ | rw [hx2])
                 refine N_round ⟨(i + 1, 0, true, [] ++ [2, 128 * n + x % 128 - 80]), by dsimp only; omega, by simp, by simp, by simp, by simp, k6⟩ (by dsimp only; omega) (St.le_of ⟨⟨rfl, rfl, rfl, rfl, rfl⟩, rfl⟩)
             · rw [if_neg ho] at k6
               repeat (first | refine nx ?_ | rw [hx2])
               refine N_round ⟨(i + 1, 0, true, o ++ [128 * n + x % 128]), by dsimp only; omega, by simp, by simp, by simp, by simp; omega, k6⟩ (by dsimp only; omega) (St.le_of ⟨⟨rfl, rfl, rfl, rfl, rfl⟩, rfl⟩)
         · rw [if_neg c3] at k6
           by_cases hlast : i + 1 = l.length
           · rw [hlast, List.drop_length] at k6
             rw [show nxA [] l.length (128 * n + x % 128) false = (0, 6, l.length) from rfl, if_neg (by simp)] at k6
             simp only [Prod.mk.injEq] at k6
             obtain ⟨rfl, rfl⟩ := k6
             repeat (first | refine nx ?_ | rw [hx2])
             exact rtU []
           · have k7 : stA l (i + 1) (128 * n + x % 128) false o = (ro, re) := by
               unfold stA
               rw [if_pos (by omega)]
               exact k6
             repeat (first | refine nx ?_ | rw [hx2])
             refine N_round ⟨(i + 1, 128 * n + x % 128, false, o), by dsimp only; omega, by dsimp only; omega, by dsimp only; omega, by intro _; dsimp only; omega, by dsimp only; omega, k7⟩ (by dsimp only; omega) (St.le_of ⟨⟨rfl, rfl, rfl, rfl, rfl⟩, rfl⟩)
 · unfold stA at k6
   rw [if_neg hi] at k6
   simp only [Prod.mk.injEq] at k6
   obtain ⟨rfl, rfl⟩ := k6
   obtain rfl : i = l.length := by omega
   repeat refine nx ?_
   refine frzN 2 ?_
   exact rtU []
end Go.Proofs.YtaagjnlkinojcaaGreatDoor

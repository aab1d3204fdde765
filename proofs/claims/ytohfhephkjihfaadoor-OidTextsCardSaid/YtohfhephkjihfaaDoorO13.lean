/-
  Chapter 04: an oid's text, the document's way. The conditions: none but that the oid is right.
-/
import Derived.Test.YtohfhephkjihfaaDoorO8
import Derived.Test.YtohfhephkjihfaaDoorC8
import Derived.Test.YtohfhephkjihfaaDoorW10
import Derived.Test.YtohfhephkjihfaaDoorSxX
import Derived.WalkKit
import Derived.ProofKit
import Derived.OpenShut
import Derived.ShutString
import Derived.ChangeOld
import Derived.Below
import Derived.Lib.SmallJoins
import Derived.Test.YtohfhephkjihfaaDoorSxN
import Derived.Lib.ItoaNum
namespace Go.Proofs.YtohfhephkjihfaaDoor
set_option linter.unusedSimpArgs false
set_option linter.unusedVariables false
open Go.Sx
set_option maxRecDepth 10000
theorem next_bad (l : List Int) (p : Nat) (hp : p < l.length) (hl : l.length ≤ 1000000) (hx : l.getD p 0 = 128) : Ct Tryd.prog 30 [.c (.ptr 0 0)] [curB l p] (.tup [lv (.int .i64 0), lv (.int .i64 6)]) [curB l (p + 1)] [] := by
 have h1 := byte_ok l p hp hl
 rw [hx] at h1
 refine Ct_intro Tryd.func30 rfl rfl rfl rfl rfl (fun E hn hb => ?_)
 repeat (refine nst ?_)
 refine W_weaken (St.le_of (l := [(0, .c (.ptr 0 0)), (4, lv (.int .i64 0)), (5, lv (.int .i64 0))]) (h := [(0, curB l p)]) (by refine ⟨?_, ?_⟩ <;> (repeat' (first | exact trivial | exact rfl | refine ⟨?_, ?_⟩)) <;> first | exact rfl | (simp; done) | skip)) ?_
 refine W_loop (ι := Unit) (fun _ => St.of [(0, .c (.ptr 0 0)), (4, lv (.int .i64 0)), (5, lv (.int .i64 0))] [(0, curB l p)]) (fun _ => 0) (fun _ => ?_) ()
 repeat (refine nst ?_)
 refine s_call [0] h1 rfl rfl (by rw [hn]; rfl) rfl rfl (by trivial) ⟨rfl, rfl, (by simp [ordL]), rfl⟩ ?_
 repeat (refine nst ?_)
 refine W_cond rfl (by simp) (fun hc => ?_) (fun hc => ?_)
 · repeat (refine nst ?_)
   exact rt1 []
 · simp at hc
theorem parse_bad : Ct Tryd.prog 12 [B8 [128, 1]] [] (.tup [I64 [], lv (.int .i64 6)]) [] [] := by
 have h1 := curnew_ok [128, 1] (by simp)
 have h2 := next_bad [128, 1] 0 (by simp) (by simp) rfl
 refine Ct_intro Tryd.func12 rfl rfl rfl rfl rfl (fun E hn hb => ?_)
 repeat (refine nst ?_)
 refine s_call [] h1 rfl rfl (by rw [hn]; rfl) rfl rfl (by trivial) ⟨rfl, trivial, trivial, rfl⟩ ?_
 repeat (refine nst ?_)
 refine s_call [75] h2 rfl rfl (by rw [hn]; rfl) rfl rfl (by trivial) ⟨rfl, rfl, (by simp [ordL]), rfl⟩ ?_
 repeat (refine nst ?_)
 refine W_cond rfl (by simp) (fun hc => ?_) (fun hc => ?_)
 · repeat (refine nst ?_)
   refine N_retU [] rfl (by simp) (r' := .tup [I64 [], lv (.int .i64 6)]) ⟨.inr ⟨rfl, .inl ⟨_, rfl⟩⟩, .inl rfl, trivial⟩ ⟨rfl, trivial, trivial, rfl⟩ hb rfl trivial
 · simp at hc
def exI (x : Int) : ByteArray := if x = 2 then ByteArray.mk #[50] else if x = 5 then ByteArray.mk #[53] else if x = 29 then ByteArray.mk #[50, 57] else ByteArray.mk #[50, 48]
theorem text_ex : Ct Tryd.prog 7 [I64 [2, 5, 29, 20]] [] (.tup [lv (.string (ByteArray.mk #[50, 46, 53, 46, 50, 57, 46, 50, 48])), lv (.int .i64 0)]) [] [] := by
 have h := text_of exI (fun x => by unfold exI; split; decide; split; decide; split; decide; decide) (fun x => by unfold exI; split; decide; split; decide; split; decide; decide) [2, 5, 29, 20] (by decide) (fun x hx => by
   simp at hx
   rcases hx with rfl | rfl | rfl | rfl
   · exact itoa_2
   · exact itoa_5
   · exact itoa_29
   · exact itoa_20)
 have e : strOfNums (textO exI [2, 5, 29, 20]) = ByteArray.mk #[50, 46, 53, 46, 50, 57, 46, 50, 48] := by decide +kernel
 rw [e] at h
 exact h
theorem cont_ex1 : Ct Tryd.prog 11 [I64 [1, 2, 840, 113549]] [] (.tup [B8 [42, 134, 72, 134, 247, 13], lv (.int .i64 0)]) [] [] := by
 have h := contO_ok [1, 2, 840, 113549] (by simp)
 have e : contO [1, 2, 840, 113549] = .tup [B8 (arcsL [42, 840, 113549]), lv (.int .i64 0)] := by
   rw [contO, if_pos (by decide)]; rfl
 have e2 : arcsL [42, 840, 113549] = [42, 134, 72, 134, 247, 13] := by decide +kernel
 rw [e, e2] at h
 exact h
theorem cont_ex2 : Ct Tryd.prog 11 [I64 [2, 999]] [] (.tup [B8 [136, 55], lv (.int .i64 0)]) [] [] := by
 have h := contO_ok [2, 999] (by simp)
 have e : contO [2, 999] = .tup [B8 (arcsL [1079]), lv (.int .i64 0)] := by
   rw [contO, if_pos (by decide)]; rfl
 have e2 : arcsL [1079] = [136, 55] := by decide +kernel
 rw [e, e2] at h
 exact h
theorem wf04 {l : List Int} (h : (l.all fun x => decide (0 ≤ x) && decide (x < 256)) = true) : WfB l := fun x hx => by
 have := List.all_eq_true.1 h x hx
 simpa using this
theorem hex_a : Ct Tryd.prog 25 [B8 [42, 134, 72, 134, 247, 13]] [] (lv (.string (strOfNums [50, 97, 56, 54, 52, 56, 56, 54, 102, 55, 48, 100]))) [] [] := hex_ok [42, 134, 72, 134, 247, 13] (by decide) (wf04 (by decide))
theorem hex_b : Ct Tryd.prog 25 [B8 [136, 55]] [] (lv (.string (strOfNums [56, 56, 51, 55]))) [] [] := hex_ok [136, 55] (by decide) (wf04 (by decide))
theorem known04_ok : Ct Tryd.prog 8 [] [] (lv (.bool true)) [] [] := by
 refine Ct_intro Tryd.func8 rfl rfl rfl rfl rfl (fun E hn hb => ?_)
 repeat (refine nst ?_)
 refine WL_q (opq_of (opy_lit (d := (.ints .i64 [1, 2, 840, 113549])) rfl (elt_mk Tryd.underlying22 rfl rfl) zok3 rfl (by exact vcs) rfl ⟨by decide, by decide, rfl, rfl⟩) rfl) (by rw [hn]; rfl) ?_
 refine s_call0 (cont_ex1) rfl rfl rfl (by rw [hn]; rfl) rfl rfl (by exact vcs) rfl rfl rfl ?_
 repeat (refine nst ?_)
 refine WL_q (opq_of (opy_lit (d := (.ints .i64 [2, 999])) rfl (elt_mk Tryd.underlying22 rfl rfl) zok3 rfl (by exact vcs) rfl ⟨by decide, by decide, rfl, rfl⟩) rfl) (by rw [hn]; rfl) ?_
 refine s_call0 (cont_ex2) rfl rfl rfl (by rw [hn]; rfl) rfl rfl (by exact vcs) rfl rfl rfl ?_
 repeat (refine nst ?_)
 refine WL_q (opq_of (opy_lit (d := (.ints .u8 [128, 1])) rfl (elt_mk Tryd.underlying33 rfl rfl) zok5 rfl (by exact vcs) rfl ⟨by decide, by decide, rfl, rfl⟩) rfl) (by rw [hn]; rfl) ?_
 refine s_call0 (parse_bad) rfl rfl rfl (by rw [hn]; rfl) rfl rfl (by exact vcs) rfl rfl rfl ?_
 repeat (refine nst ?_)
 refine WL_q (opq_of (opy_lit (d := (.ints .i64 [2, 5, 29, 20])) rfl (elt_mk Tryd.underlying22 rfl rfl) zok3 rfl (by exact vcs) rfl ⟨by decide, by decide, rfl, rfl⟩) rfl) (by rw [hn]; rfl) ?_
 refine s_call0 (text_ex) rfl rfl rfl (by rw [hn]; rfl) rfl rfl (by exact vcs) rfl rfl rfl ?_
 repeat (refine nst ?_)
 refine WL_q (opq_callG rfl rfl rfl rfl rfl (fun _ => (hex_a)) (fun hG => by first | exact hG | (first | trivial | (simp; done) | (simp; omega) | (simp at *; done) | (simp at *; omega))) rfl rfl) (by rw [hn]; rfl) ?_
 repeat (refine nst ?_)
 refine WL_q (opq_callG rfl rfl rfl rfl rfl (fun _ => (hex_b)) (fun hG => by first | exact hG | (first | trivial | (simp; done) | (simp; omega) | (simp at *; done) | (simp at *; omega))) rfl rfl) (by rw [hn]; rfl) ?_
 repeat (refine nst ?_)
 refine rt2 [] ?_ ?_
 · simp only [ByteArray.toList_eq]
   rfl
 · trivial

theorem refRight_ok (o : List Int) (hl : o.length ≤ 1000000) : Ct Tryd.prog 20 [I64 o] [] (lv (.bool (rightO o))) [] [] := by
 obtain ⟨R, hR⟩ : ∃ R, rightO o = R := ⟨_, rfl⟩
 rw [hR]
 refine Ct_intro Tryd.func20 rfl rfl rfl rfl rfl (fun E hn hb => ?_)
 repeat (refine nst ?_)
 refine W_cond rfl (by simp) (fun hc => ?_) (fun hc => ?_)
 · have : R = false := by
     rw [← hR]
     simp at hc
     match o, hc with
     | [], _ => rfl
     | [_], _ => rfl
     | a :: b :: t, hc => simp at hc; rw [rightO_cons, if_pos (by omega)]
   subst this
   repeat (refine nst ?_)
   exact rt1 []
 · have hlen : 2 ≤ o.length ∧ o.length ≤ 32 := by simp at hc; omega
   repeat (refine nst ?_)
   refine W_weaken (St.le_of (l := [(0, I64 o), (3, lv (.int .i64 ((0 : Nat) : Int)))]) (h := []) (by refine ⟨?_, ?_⟩ <;> (repeat' (first | exact trivial | exact rfl | refine ⟨?_, ?_⟩)) <;> first | exact rfl | (simp; done) | skip)) ?_
   refine W_loop (ι := {i : Nat // i ≤ o.length ∧ (o.take i).all inR = true}) (fun i => St.of [(0, I64 o), (3, lv (.int .i64 (i.1 : Int)))] []) (fun i => o.length - i.1) (fun i => ?_) ⟨0, by omega, by simp⟩
   obtain ⟨i, hi, ha⟩ := i
   dsimp only
   repeat (refine nst ?_)
   refine W_cond rfl (by simp) (fun hc => ?_) (fun hc => ?_)
   · have hi2 : i < o.length := by simpa using hc
     repeat (refine nst ?_)
     refine W_cond rfl (by simp) (fun h2 => ?_) (fun h2 => ?_)
     · have : R = false := by
         rw [← hR]
         have hg := all_get hi2 (by simp [Bool.cond_eq_ite] at h2; simp only [inR, Bool.not_eq_false', Bool.or_eq_true, decide_eq_true_eq]; rw [List.getD_eq_getElem?_getD]; omega)
         match o, hlen, hg with
         | a :: b :: t, hlen, hg => rw [rightO_cons, hg]; simp
       subst this
       repeat (refine nst ?_)
       exact rt1 []
     · repeat (refine nst ?_)
       (refine N_round ?i1 ?i2 ?i3; (case i1 => exact ⟨i + 1, by omega, all_take hi2 ha (by simp [Bool.cond_eq_ite] at h2; simp only [inR, Bool.not_eq_true', Bool.or_eq_false_iff, decide_eq_false_iff_not]; rw [List.getD_eq_getElem?_getD]; omega)⟩); (case i2 => (dsimp only; omega)); (case i3 => refine St.le_of ⟨?_, ?_⟩ <;> (repeat' (first | exact trivial | exact rfl | refine ⟨?_, ?_⟩)) <;> first | exact rfl | (simp; done) | skip))
   · have : i = o.length := by simp at hc; omega
     subst this
     rw [List.take_length] at ha
     clear hi
     match o, hlen, ha, hR with
     | a :: b :: t, hlen, ha, hR =>
     have h30 : ¬ 30 < t.length := by simp at hlen; omega
     have ha0 : 0 ≤ a := by
       have := List.all_eq_true.1 ha a (by simp)
       simp [inR] at this
       exact this.1
     rw [rightO_cons, if_neg h30, ha, if_neg (by simp)] at hR
     repeat (refine nst ?_)
     refine rt2 [] ?_ ?_
     · refine congrArg (fun x => lv (.bool x)) (?_ : (bif bif decide (a < 2) then decide (b < 40) else false then true else bif a == 2 then decide (b ≤ 2147483567) else false) = R)
       rw [← hR]
       by_cases h0 : a = 0 ∨ a = 1
       · have h1 : a < 2 := by omega
         have h2 : (a == 2) = false := by simp; omega
         rw [if_pos h0, h2]
         simp [h1]
       · have h1 : ¬ a < 2 := by omega
         rw [if_neg h0]
         by_cases h2 : a = 2
         · simp [h2]
         · simp [h1, h2]
     · trivial
theorem refSame_ok (a b : List Int) (ha : a.length ≤ 1000000) (hb' : b.length ≤ 1000000) : Ct Tryd.prog 9 [I64 a, I64 b] [] (lv (.bool (decide (a = b)))) [] [] := by
 refine Ct_intro Tryd.func9 rfl rfl rfl rfl rfl (fun E hn hb => ?_)
 repeat (refine nst ?_)
 refine s_call0 (refCmp_ok a b ha hb') rfl rfl rfl (by rw [hn]; rfl) rfl rfl (by exact vcs) rfl rfl rfl ?_
 repeat (refine nst ?_)
 refine rt2 [] ?_ ?_
 · refine congrArg (fun x => lv (.bool x)) (?_ : (cmpL a b == 0) = decide (a = b))
   rw [Bool.eq_iff_iff]
   simp [cmpL_eq]
 · trivial
end Go.Proofs.YtohfhephkjihfaaDoor

namespace Go.Sx
open Go
open Go.ChangeShapes Go.WideShapes Go.ChangeAt Go.RowKit Go.Joins Go.Deep
set_option linter.unusedVariables false
abbrev Was (w : World) : Nat → Prop := fun b => b < w.heap.size
section
variable {H : Type} {enc : TypeId × Value → H} {P : Program} {w : World} {base : Nat} {spare : Nat → Bool} {held : Bool} {fuel : Nat}
theorem open_str {t : TypeId} {v : Value} {d : DataW H} {p : List MemPlace} (ht : P.underlying t = some .string) {r : Reach} {b0 : Nat} (hv : Value.okWide P w r b0 t v) (h : DataW.Trod enc P w base spare held t v d p) :
   ∃ s : ByteArray, s.size ≤ 9223372036854775807 ∧ ∀ β, AvR β (Was w) w (.c (.lf (.v (.string s)))) v := by
 obtain ⟨n0, rfl⟩ := okWide_string ht hv
 obtain ⟨fuel, h⟩ := h
 obtain ⟨n, hn, _, hw⟩ := DataW.trod_string ht h
 simp [Value.cells] at hn
 subst hn
 exact ⟨_, hw, fun β => .c (.lf (.v _ rfl))⟩
theorem Ct.calls {f : FuncId} {args : List Av} (h : Ct P f args [] (.c (.lf (.v (.bool true)))) [] []) (w : World) (vs : List Value) (hl : vs.length = args.length) (ha : ∀ (i : Nat) (x : Av) (v : Value), args[i]? = some x → vs[i]? = some v → AvR (fun _ => none) (Was w) w x v) :
   Calls P f vs.toArray w fun e w' => e = .returned (.bool true) ∧ Below w.heap.size w w' := by
 refine (h.2.2 w (fun _ => none) (Was w) vs hl ha (fun i b h => by simp at h) (fun i j g h => absurd h (Nat.not_lt_zero _)) (fun j g h => absurd h (Nat.not_lt_zero _)) (fun _ _ => rfl) (fun b hb => hb)).mono fun e w' hq => ?_
 obtain ⟨v, β', F', rfl, hr, _, _, ho⟩ := hq
 refine ⟨?_, ?_⟩
 · cases hr with | c hr => cases hr with | lf hr => cases hr with | v x h => rfl
 · have hk := ho.keep
   exact ⟨hk.os, hk.tape, hk.output, hk.size, fun k hk' => hk.block k hk' (by rintro ⟨i, hi, _⟩; exact absurd hi (Nat.not_lt_zero _))⟩
end
end Go.Sx

namespace Go.Proofs.YtohfhephkjihfaaDoor
set_option linter.unusedSimpArgs false
set_option linter.unusedVariables false
open Go.Sx
set_option maxRecDepth 10000
def decV (d : List Int) : Nat := d.foldl (fun a x => 10 * a + (x - 48).toNat) 0
theorem decV_snoc (d : List Int) (x : Int) : decV (d ++ [x]) = 10 * decV d + (x - 48).toNat := by simp [decV]
def isDig (x : Int) : Bool := decide (48 ≤ x) && decide (x ≤ 57)
theorem decL_isDig : ∀ (k n : Nat), n ≤ k → (decL n).all isDig = true
 | 0, n, h => by
   have : n = 0 := by omega
   subst this; rw [decL_zero]; rfl
 | k + 1, n, h => by
   by_cases h0 : n = 0
   · subst h0; rw [decL_zero]; rfl
   · rw [decL_pos h0, List.all_cons, decL_isDig k (n / 10) (by omega)]
     simp [isDig]; omega
theorem decV_pos : ∀ (l : List Int) (a : Nat), a ≠ 0 → l.foldl (fun a x => 10 * a + (x - 48).toNat) a ≠ 0
 | [], a, h => h
 | x :: l, a, h => by simp only [List.foldl_cons]; exact decV_pos l _ (by omega)
theorem decL_decV : ∀ (k : Nat) (l : List Int), l.length ≤ k → l.all isDig = true → (∀ x t, l = x :: t → x ≠ 48) → decL (decV l) = l.reverse
 | 0, l, h, _, _ => by
   have : l = [] := List.eq_nil_of_length_eq_zero (by omega)
   subst this; exact decL_zero
 | k + 1, l, h, hd, hf => by
   rcases List.eq_nil_or_concat l with rfl | ⟨a, x, rfl⟩
   · exact decL_zero
   · simp only [List.concat_eq_append] at *
     rw [List.all_append, Bool.and_eq_true] at hd
     have hx : 48 ≤ x ∧ x ≤ 57 := by simpa [isDig] using hd.2
     have hfa : ∀ y t, a = y :: t → y ≠ 48 := fun y t e => hf y (t ++ [x]) (by rw [e]; rfl)
     have ih := decL_decV k a (by simp at h; omega) hd.1 hfa
     rw [decV_snoc, List.reverse_append, ← ih]
     have hne : 10 * decV a + (x - 48).toNat ≠ 0 := by
       cases a with
       | nil =>
         have := hf x [] rfl
         omega
       | cons y t =>
         have hy := hfa y t rfl
         have hyd : 48 ≤ y := by
           have := hd.1
           simp [isDig] at this
           omega
         have : decV (y :: t) ≠ 0 := by
           unfold decV
           rw [List.foldl_cons]
           exact decV_pos t _ (by omega)
         omega
     rw [decL_pos hne]
     have e1 : (10 * decV a + (x - 48).toNat) / 10 = decV a := by omega
     have e2 : 48 + (((10 * decV a + (x - 48).toNat) % 10 : Nat) : Int) = x := by omega
     rw [e1, e2]; rfl
theorem str_of (t : ByteArray) : ∃ l : List Int, t = strOfNums l ∧ WfB l ∧ l.length = t.size := by
 refine ⟨bs t, ?_, ?_, ?_⟩
 · apply ByteArray.ext
   apply Array.ext'
   rw [strOfNums_data]
   simp only [bs, List.map_map]
   conv => lhs; rw [← List.map_id t.data.toList]
   apply List.map_congr_left
   intro b _
   show b = UInt8.ofNat ((b.toNat : Int)).toNat
   rw [Int.toNat_natCast, UInt8.ofNat_toNat]
 · intro x hx
   obtain ⟨b, _, rfl⟩ := List.mem_map.1 hx
   have := b.toNat_lt
   omega
 · show (t.data.toList.map _).length = t.data.size
   rw [List.length_map, Array.length_toList]
theorem bs_str {l : List Int} (h : WfB l) : bs (strOfNums l) = l := by
 simp only [bs, strOfNums_data, List.map_map]
 conv => rhs; rw [← List.map_id l]
 apply List.map_congr_left
 intro x hx
 have := h x hx
 simp only [Function.comp]
 rw [UInt8.toNat_ofNat']
 simp only [id]
 omega
theorem ext_str (l : List Int) (a b : Nat) : (strOfNums l).extract a b = strOfNums ((l.take b).drop a) := by
 apply ByteArray.ext
 apply Array.ext'
 rw [strOfNums_data]
 simp only [ByteArray.data_extract, Array.toList_extract, strOfNums_data]
 simp [List.extract_eq_take_drop, List.map_take, List.map_drop, List.drop_take]

@[simp] theorem size_str (l : List Int) : (strOfNums l).size = l.length := strOfNums_size l

def decT (n : Nat) : List Int := if n = 0 then [48] else (decL n).reverse
def refS (x : Int) : ByteArray := strOfNums (decT (x.toNat % 2147483648))
theorem decL_wf (n : Nat) : WfB (decL n) := by
 intro x hx
 have h := List.all_eq_true.1 (decL_isDig n n (Nat.le_refl _)) x hx
 simp [isDig] at h
 omega
theorem decT_wf (n : Nat) : WfB (decT n) := by
 unfold decT
 split
 · intro x hx; simp at hx; omega
 · intro x hx; exact decL_wf n x (List.mem_reverse.1 hx)
theorem decT_len {n : Nat} (h : n < 2147483648) : (decT n).length ≤ 10 := by
 unfold decT
 split
 · simp
 · rw [List.length_reverse]
   exact decL_len 10 n (by omega)
theorem decT_pos (n : Nat) : 0 < (decT n).length := by
 unfold decT
 split
 · simp
 · rename_i h
   rw [List.length_reverse, decL_pos h]
   simp
theorem refS_size (x : Int) : (refS x).size ≤ 20 := by
 rw [refS, size_str]
 have := decT_len (n := x.toNat % 2147483648) (by omega)
 omega
theorem refS_pos (x : Int) : 0 < (refS x).size := by
 rw [refS, size_str]
 exact decT_pos _
theorem refS_eq {x : Int} (h : 0 ≤ x ∧ x ≤ 2147483647) : refS x = strOfNums (decT x.toNat) := by
 have e : x.toNat % 2147483648 = x.toNat := by omega
 rw [refS, e]
theorem decDig : ∀ k u : Nat, u ≤ k → Lib.decDigits u = (decT u).map fun x => UInt8.ofNat x.toNat
 | 0, u, h => by
   have : u = 0 := by omega
   subst this
   rw [Lib.decDigits, dif_pos (by omega)]
   rfl
 | k + 1, u, h => by
   by_cases h1 : u < 10
   · rw [Lib.decDigits, dif_pos h1]
     unfold decT
     split
     · rename_i h2; subst h2; rfl
     · rename_i h2
       have h3 : u / 10 = 0 := by omega
       have h4 : u % 10 = u := by omega
       rw [decL_pos h2, h3, h4, decL_zero]
       show [UInt8.ofNat (48 + u)] = [UInt8.ofNat (48 + (u : Int)).toNat]
       rw [show (48 + (u : Int)).toNat = 48 + u by omega]
   · rw [Lib.decDigits, dif_neg h1, decDig k (u / 10) (by omega)]
     have h2 : u ≠ 0 := by omega
     have h3 : u / 10 ≠ 0 := by omega
     rw [decT, decT, if_neg h2, if_neg h3, decL_pos h2, List.reverse_cons, List.map_append]
     refine congrArg (_ ++ ·) ?_
     show [UInt8.ofNat (48 + u % 10)] = [UInt8.ofNat (48 + ((u % 10 : Nat) : Int)).toNat]
     rw [show (48 + ((u % 10 : Nat) : Int)).toNat = 48 + u % 10 by omega]
theorem itoa_ref {x : Int} (h : 0 ≤ x ∧ x ≤ 2147483647) : (⟨(Lib.itoa x).toArray⟩ : ByteArray) = refS x := by
 rw [refS_eq h, Lib.itoa, if_neg (by omega), decDig _ _ (Nat.le_refl _)]
 rfl
theorem strL_ref {x : Int} (h : 0 ≤ x ∧ x ≤ 2147483647) : strL (refS x) = decT x.toNat := by
 rw [refS_eq h]
 exact bs_str (decT_wf _)
theorem right_in {o : List Int} (hr : rightO o = true) : ∀ x ∈ o, 0 ≤ x ∧ x ≤ 2147483647 := by
 match o, hr with
 | a :: b :: t, hr =>
   rw [rightO_cons] at hr
   split at hr
   · cases hr
   · split at hr
     · cases hr
     · rename_i h
       simp only [Bool.not_eq_true', Bool.not_eq_false, Bool.not_eq_true] at h
       intro x hx
       have := List.all_eq_true.1 (by simpa using h) x hx
       simp [inR] at this
       omega
theorem right_len {o : List Int} (hr : rightO o = true) : o.length ≤ 32 ∧ 2 ≤ o.length := by
 obtain ⟨a, b, t, rfl, _, _, _, _, ht, _⟩ := right_nums hr
 simp; omega
end Go.Proofs.YtohfhephkjihfaaDoor

/-
  Chapter 17: extensions, theirs and the document's; their oids compared. The conditions: rows of at most a million elements.
-/
import Derived.Test.YtaagjnlkinojcaaSxI
import Derived.Test.YtaagjnlkinojcaaSxX
import Derived.Test.YtaagjnlkinojcaaC8
import Derived.Test.YtaagjnlkinojcaaO3
import Derived.Test.YtaagjnlkinojcaaSxK
import Derived.Test.YtaagjnlkinojcaaW9
import Derived.Test.YtaagjnlkinojcaaC4
import Derived.Test.YtaagjnlkinojcaaSxQ
import Derived.Test.YtaagjnlkinojcaaTy
namespace Go.Proofs.Ytaagjnlkinojcaa
set_option linter.unusedSimpArgs false
set_option linter.unusedVariables false
open Go.Sx
set_option maxRecDepth 10000
def hexV (c : Int) : Int := if 48 ≤ c ∧ c ≤ 57 then c - 48 else if 97 ≤ c ∧ c ≤ 102 then c - 97 + 10 else 16
theorem value_ok (c : Int) (hc : 0 ≤ c ∧ c < 256) : Ct Try.prog 45 [lv (.int .u8 c)] [] (lv (.int .u8 (hexV c))) [] [] := by
 unfold hexV
 by_cases h1 : 48 ≤ c ∧ c ≤ 57
 · rw [if_pos h1]
   refine Ct_intro Try.func45 rfl rfl rfl rfl rfl (fun E hn hb => ?_)
   repeat refine nx ?_
   exact rt1 []
 · rw [if_neg h1]
   by_cases h2 : 97 ≤ c ∧ c ≤ 102
   · rw [if_pos h2]
     refine Ct_intro Try.func45 rfl rfl rfl rfl rfl (fun E hn hb => ?_)
     repeat refine nx ?_
     exact rt1 []
   · rw [if_neg h2]
     refine Ct_intro Try.func45 rfl rfl rfl rfl rfl (fun E hn hb => ?_)
     repeat refine nx ?_
     exact rt1 []
def unhL (l : List Int) (k : Nat) : List Int := (List.range k).map fun j => 16 * hexV (l.getD (2 * j) 0) + hexV (l.getD (2 * j + 1) 0)
theorem unh_next (l : List Int) (k : Nat) : unhL l (k + 1) = unhL l k ++ [16 * hexV (l.getD (2 * k) 0) + hexV (l.getD (2 * k + 1) 0)] := by
 unfold unhL
 rw [List.range_succ, List.map_append]
 rfl
theorem orHx : ∀ x : Fin 16, ∀ y : Fin 16, IntKind.u8.wrap (BitVec.ofInt IntKind.u8.bits (((x.val : Nat) : Int) * 2 ^ min (Int.toNat 4) IntKind.u8.bits) ||| BitVec.ofInt IntKind.u8.bits ((y.val : Nat) : Int)).toNat = 16 * ((x.val : Nat) : Int) + ((y.val : Nat) : Int) := by decide +kernel
theorem orH {X Y : Int} (hx : X ≤ 15 ∧ 0 ≤ X) (hy : Y ≤ 15 ∧ 0 ≤ Y) : IntKind.u8.wrap (BitVec.ofInt IntKind.u8.bits (X * 2 ^ min (Int.toNat 4) IntKind.u8.bits) ||| BitVec.ofInt IntKind.u8.bits Y).toNat = 16 * X + Y := by
 obtain ⟨x, rfl⟩ : ∃ x : Nat, X = x := ⟨X.toNat, by omega⟩
 obtain ⟨y, rfl⟩ : ∃ y : Nat, Y = y := ⟨Y.toNat, by omega⟩
 exact orHx ⟨x, by omega⟩ ⟨y, by omega⟩
theorem unhex_ok (l : List Int) (n : Nat) (hn2 : l.length = 2 * n) (hl : l.length ≤ 1000) (hw : ∀ x ∈ l, 0 ≤ x ∧ x < 256) (hx : ∀ i, i < l.length → hexV (l.getD i 0) ≤ 15 ∧ 0 ≤ hexV (l.getD i 0)) :
   Ct Try.prog 25 [lv (.string (strOfNums l))] [] (.tup [B8 (unhL l n), lv (.int .i64 0)]) [] [] := by
 have hs : (strOfNums l).size = l.length := strOfNums_size l
 refine Ct_intro Try.func25 rfl rfl rfl rfl rfl (fun E hn hb => ?_)
 repeat refine nx ?_
 refine s_makeI (by_ := 1) rfl rfl rfl (by rw [hn]; rfl) (elt_mk Try.underlying24 rfl rfl) rfl rfl rfl (by exact vcs) 0 (by first | rfl | (simp; done) | omega) (by first | (simp; done) | omega | (simp at *; omega)) ?_
 repeat refine nx ?_
 refine W_weaken (St.le_of (l := [(0, lv (.string (strOfNums l))), (4, .c (.own 79 1 0 (unhL l 0).length)), (5, lv (.int .i64 ((2 * 0 : Nat) : Int)))]) (h := [(79, .row (.ints .u8 (unhL l 0)))]) (by refine ⟨?_, ?_⟩ <;> (repeat' (first | exact trivial | exact rfl | refine ⟨?_, ?_⟩)) <;> first | exact rfl | (simp; done) | skip)) ?_
 refine W_loop (ι := {k : Nat // k ≤ n}) (fun k => St.of [(0, lv (.string (strOfNums l))), (4, .c (.own 79 1 0 (unhL l k.1).length)), (5, lv (.int .i64 ((2 * k.1 : Nat) : Int)))] [(79, .row (.ints .u8 (unhL l k.1)))]) (fun k => n - k.1) (fun k => ?_) ⟨0, Nat.zero_le _⟩
 obtain ⟨k, hk⟩ := k
 dsimp only
 by_cases hk2 : k < n
 · have h1 := hx (2 * k) (by omega)
   have h2 := hx (2 * k + 1) (by omega)
   have ul : (unhL l k).length = k := by simp [unhL]
   repeat refine nx ?_
   have e1 : (bs (strOfNums l)).getD ((2 * k : Nat) : Int).toNat 0 = l.getD (2 * k) 0 := by rw [bsN hw, Int.toNat_natCast]
   have e2 : (bs (strOfNums l)).getD (((2 * k : Nat) : Int) + 1).toNat 0 = l.getD (2 * k + 1) 0 := by rw [bsN hw, show (((2 * k : Nat) : Int) + 1).toNat = 2 * k + 1 by omega]
   have b1 : 0 ≤ l.getD (2 * k) 0 ∧ l.getD (2 * k) 0 < 256 := wf_at hw _
   have b2 : 0 ≤ l.getD (2 * k + 1) 0 ∧ l.getD (2 * k + 1) 0 < 256 := wf_at hw _
   refine duc1 (hF := value_ok _ ?c1) ?k1
   case c1 => rw [e1]; exact b1
   repeat refine nx ?_
   refine duc1 (hF := value_ok _ ?c2) ?k2
   case c2 => rw [e2]; exact b2
   repeat refine nx ?_
   rw [e1, e2]
   have hnx := unh_next l k
   generalize hexV (l.getD (2 * k) 0) = X at *
   generalize hexV (l.getD (2 * k + 1) 0) = Y at *
   repeat refine nx ?_
   rw [orH h1 h2, ← hnx]
   have e3 : ((2 * k : Nat) : Int) + 2 = ((2 * (k + 1) : Nat) : Int) := by omega
   rw [e3]
   refine N_round ⟨k + 1, by omega⟩ (by dsimp only; omega) (St.le_of ⟨⟨rfl, rfl, rfl⟩, rfl⟩)
 · obtain rfl : k = n := by omega
   repeat refine nx ?_
   refine frzN 2 ?_
   exact rt1 []

set_option maxHeartbeats 4000000 in
theorem refCmp_ok (a b : List Int) (ha : a.length ≤ 1000000) (hb' : b.length ≤ 1000000) : Ct Try.prog 24 [I64 a, I64 b] [] (lv (.int .i64 (cmpL a b))) [] [] := by
 refine Ct_intro Try.func24 rfl rfl rfl rfl rfl (fun E hn hb => ?_)
 repeat (refine nst ?_)
 refine W_weaken (St.le_of (l := [(0, I64 a), (1, I64 b), (5, lv (.int .i64 0))]) (h := []) (by refine ⟨?_, ?_⟩ <;> (repeat' (first | exact trivial | exact rfl | refine ⟨?_, ?_⟩)) <;> first | exact rfl | (simp; done) | skip)) ?_
 refine W_loop (ι := {i : Nat // i ≤ 1000000 ∧ cmpL (a.drop i) (b.drop i) = cmpL a b}) (fun i => St.of [(0, I64 a), (1, I64 b), (5, lv (.int .i64 (i.1 : Int)))] []) (fun i => 1000001 - i.1) (fun i => ?_) ⟨0, by omega, rfl⟩
 obtain ⟨i, hi, he⟩ := i
 dsimp only
 repeat (refine nst ?_)
 refine W_cond rfl (by simp) (fun hc => ?_) (fun hc => ?_)
 · simp at hc
   repeat (refine nst ?_)
   refine W_drawW 21 (by kernel_rfl) (by kernel_rfl) (by kernel_rfl) (by rw [hn]; rfl) rfl rfl ?_
   repeat (first | refine dp1 ?_ | refine dg1 ?_ | refine DrawW_nil ?_)
   repeat (refine nst ?_)
   have key : ∀ x : List Int, i < x.length → x.drop i = x.getD i 0 :: x.drop (i + 1) := fun x h => by
     rw [List.drop_eq_getElem_cons h]; simp [h]
   refine W_cond rfl (by simp) (fun hd => ?_) (fun hd => ?_)
   · repeat (refine nst ?_)
     refine rt2 [] ?_ ?_
     · have : cmpL a b = -1 := by
         rw [← he]
         by_cases h1 : i < a.length
         · have h2 : i < b.length ∧ a.getD i 0 < b.getD i 0 := by
             have : ¬ a.length ≤ i := by omega
             simpa [this, Bool.cond_eq_ite] using hd
           rw [key a h1, key b h2.1]
           simp only [cmpL, h2.2, if_true]
         · rw [List.drop_eq_nil_of_le (by omega), key b (by omega)]; rfl
       rw [this]; rfl
     · trivial
   · repeat (refine nst ?_)
     have hia : i < a.length ∧ (i < b.length → ¬ a.getD i 0 < b.getD i 0) := by
       rcases Nat.lt_or_ge i a.length with h | h
       · have : ¬ a.length ≤ i := by omega
         refine ⟨h, fun hib => ?_⟩
         simpa [this, hib, Bool.cond_eq_ite] using hd
       · simp [h, Bool.cond_eq_ite] at hd
     clear hd
     refine W_drawW 15 (by kernel_rfl) (by kernel_rfl) (by kernel_rfl) (by rw [hn]; rfl) rfl rfl ?_
     repeat (first | refine dp1 ?_ | refine dg1 ?_ | refine DrawW_nil ?_)
     repeat (refine nst ?_)
     refine W_cond rfl (by simp) (fun hd => ?_) (fun hd => ?_)
     · repeat (refine nst ?_)
       refine rt2 [] ?_ ?_
       · have : cmpL a b = 1 := by
           rw [← he, key a hia.1]
           by_cases h1 : i < b.length
           · have h2 : b.getD i 0 < a.getD i 0 := by
               have : ¬ b.length ≤ i := by omega
               simpa [this, Bool.cond_eq_ite] using hd
             rw [key b h1]
             simp only [cmpL, hia.2 h1, h2, if_true, if_false]
           · rw [List.drop_eq_nil_of_le (by omega : b.length ≤ i)]; rfl
         rw [this]; rfl
       · trivial
     · repeat (refine nst ?_)
       have h1 : i < b.length ∧ ¬ b.getD i 0 < a.getD i 0 := by
         rcases Nat.lt_or_ge i b.length with h | h
         · have : ¬ b.length ≤ i := by omega
           refine ⟨h, ?_⟩
           simpa [this, Bool.cond_eq_ite] using hd
         · simp [h, Bool.cond_eq_ite] at hd
       (refine N_round ?i1 ?i2 ?i3; (case i1 => exact ⟨i + 1, by omega, by rw [← he, key a hia.1, key b h1.1]; simp only [cmpL, hia.2 h1.1, h1.2, if_false]⟩); (case i2 => (dsimp only; omega)); (case i3 => refine St.le_of ⟨?_, ?_⟩ <;> (repeat' (first | exact trivial | exact rfl | refine ⟨?_, ?_⟩)) <;> first | exact rfl | (simp; done) | skip))
 · repeat (refine nst ?_)
   refine rt2 [] ?_ ?_
   · have : cmpL a b = 0 := by
       rw [← he, List.drop_eq_nil_of_le (by simp at hc; omega), List.drop_eq_nil_of_le (by simp at hc; omega)]; rfl
     rw [this]; rfl
   · trivial
theorem isNaN_ok (x : Int) : Ct Try.prog 97 [lv (.int .i64 x)] [] (lv (.bool false)) [] [] := by
 refine Ct_intro Try.func97 rfl rfl rfl rfl rfl (fun E hn hb => ?_)
 repeat (refine nst ?_)
 refine rt2 [] ?_ ?_
 · simp [Av.ren]
   rfl
 · trivial
def cmpN (x y : Int) : Int := if x < y then -1 else if y < x then 1 else 0
theorem cmp_ok (x y : Int) : Ct Try.prog 86 [lv (.int .i64 x), lv (.int .i64 y)] [] (lv (.int .i64 (cmpN x y))) [] [] := by
 refine Ct_intro Try.func86 rfl rfl rfl rfl rfl (fun E hn hb => ?_)
 repeat (refine nst ?_)
 refine s_call0 (isNaN_ok x) rfl rfl rfl (by rw [hn]; rfl) rfl rfl (by exact vcs) rfl rfl rfl ?_
 repeat (refine nst ?_)
 refine s_call0 (isNaN_ok y) rfl rfl rfl (by rw [hn]; rfl) rfl rfl (by exact vcs) rfl rfl rfl ?_
 repeat (refine nst ?_)
 refine W_cond rfl (by simp) (fun hc => ?_) (fun hc => ?_)
 · simp at hc
 repeat (refine nst ?_)
 refine W_cond rfl (by simp) (fun hc => ?_) (fun hc => ?_)
 · simp at hc
 repeat (refine nst ?_)
 refine W_cond rfl (by simp) (fun h1 => ?_) (fun h1 => ?_)
 · have : cmpN x y = -1 := if_pos (by simpa using h1)
   rw [this]
   repeat (refine nst ?_)
   exact rt1 []
 repeat (refine nst ?_)
 refine W_cond rfl (by simp) (fun h2 => ?_) (fun h2 => ?_)
 · have : cmpN x y = 1 := by rw [cmpN, if_neg (by simpa using h1), if_pos (by simpa using h2)]
   rw [this]
   repeat (refine nst ?_)
   exact rt1 []
 · have : cmpN x y = 0 := by rw [cmpN, if_neg (by simpa using h1), if_neg (by simpa using h2)]
   rw [this]
   repeat (refine nst ?_)
   exact rt1 []
theorem sCmp_ok (a b : List Int) (ha : a.length ≤ 1000000) (hb' : b.length ≤ 1000000) : Ct Try.prog 71 [I64 a, I64 b] [] (lv (.int .i64 (cmpL a b))) [] [] := by
 have key : ∀ (x : List Int) (i : Nat), i < x.length → x.drop i = x.getD i 0 :: x.drop (i + 1) := fun x i h => by
   rw [List.drop_eq_getElem_cons h]; simp [h]
 refine Ct_intro Try.func71 rfl rfl rfl rfl rfl (fun E hn hb => ?_)
 repeat (refine nst ?_)
 refine W_weaken (St.le_of (l := [(0, I64 a), (1, I64 b), (9, I64 a), (10, lv (.int .i64 (a.length : Int))), (11, lv (.int .i64 ((0 : Nat) : Int)))]) (h := []) (by refine ⟨?_, ?_⟩ <;> (repeat' (first | exact trivial | exact rfl | refine ⟨?_, ?_⟩)) <;> first | exact rfl | (simp; done) | skip)) ?_
 refine W_loop (ι := {i : Nat // i ≤ a.length ∧ cmpL (a.drop i) (b.drop i) = cmpL a b}) (fun i => St.of [(0, I64 a), (1, I64 b), (9, I64 a), (10, lv (.int .i64 (a.length : Int))), (11, lv (.int .i64 (i.1 : Int)))] []) (fun i => a.length - i.1) (fun i => ?_) ⟨0, by omega, rfl⟩
 obtain ⟨i, hi, he⟩ := i
 dsimp only
 repeat (refine nst ?_)
 refine W_cond rfl (by simp) (fun hc => ?_) (fun hc => ?_)
 · have hi2 : i < a.length := by simpa using hc
   rw [key a i hi2] at he
   repeat (refine nst ?_)
   refine W_cond rfl (by simp) (fun h1 => ?_) (fun h1 => ?_)
   · have : cmpL a b = 1 := by
       rw [← he, List.drop_eq_nil_of_le (by simpa using h1 : b.length ≤ i)]; rfl
     rw [this]
     repeat (refine nst ?_)
     exact rt1 []
   · have h1' : i < b.length := by simpa using h1
     rw [key b i h1'] at he
     repeat (refine nst ?_)
     generalize hx : a.getD (Int.toNat (i : Int)) 0 = x
     generalize hy : b.getD (Int.toNat (i : Int)) 0 = y
     have hx' : a.getD i 0 = x := hx
     have hy' : b.getD i 0 = y := hy
     rw [hx', hy'] at he
     refine s_call0 (cmp_ok x y) rfl rfl rfl (by rw [hn]; rfl) rfl rfl (by exact vcs) rfl rfl rfl ?_
     repeat (refine nst ?_)
     refine W_cond rfl (by simp) (fun h2 => ?_) (fun h2 => ?_)
     · have : cmpL a b = cmpN x y := by
         rw [← he]
         simp [cmpN] at h2
         simp only [cmpL, cmpN]
         split <;> simp_all
       rw [this]
       repeat (refine nst ?_)
       exact rt1 []
     · repeat (refine nst ?_)
       have : ¬ x < y ∧ ¬ y < x := by
         simp only [cmpN] at h2
         constructor
         · intro h; rw [if_pos h] at h2; simp at h2
         · intro h; rw [if_neg (by omega), if_pos h] at h2; simp at h2
       (refine N_round ?i1 ?i2 ?i3; (case i1 => exact ⟨i + 1, by omega, by rw [← he]; simp only [cmpL, this.1, this.2, if_false]⟩); (case i2 => (dsimp only; omega)); (case i3 => refine St.le_of ⟨?_, ?_⟩ <;> (repeat' (first | exact trivial | exact rfl | refine ⟨?_, ?_⟩)) <;> first | exact rfl | (simp; done) | skip))
 · have : i = a.length := by simp at hc; omega
   subst this
   rw [List.drop_length] at he
   repeat (refine nst ?_)
   refine W_cond rfl (by simp) (fun h1 => ?_) (fun h1 => ?_)
   · have : cmpL a b = -1 := by
       rw [← he, key b a.length (by simpa using h1)]; rfl
     rw [this]
     repeat (refine nst ?_)
     exact rt1 []
   · have : cmpL a b = 0 := by
       rw [← he, List.drop_eq_nil_of_le (by simpa using h1)]; rfl
     rw [this]
     repeat (refine nst ?_)
     exact rt1 []
theorem oCmp_ok (a b : List Int) (ha : a.length ≤ 1000000) (hb' : b.length ≤ 1000000) : Ct Try.prog 54 [I64 a, I64 b] [] (lv (.int .i64 (cmpL a b))) [] [] := by
 refine Ct_intro Try.func54 rfl rfl rfl rfl rfl (fun E hn hb => ?_)
 repeat (refine nst ?_)
 refine s_call0 (sCmp_ok a b ha hb') rfl rfl rfl (by rw [hn]; rfl) rfl rfl (by exact vcs) rfl rfl rfl ?_
 repeat (refine nst ?_)
 exact rt1 []

theorem refSame_ok (a b : List Int) (ha : a.length ≤ 1000000) (hb' : b.length ≤ 1000000) : Ct Try.prog 10 [I64 a, I64 b] [] (lv (.bool (decide (a = b)))) [] [] := by
 refine Ct_intro Try.func10 rfl rfl rfl rfl rfl (fun E hn hb => ?_)
 repeat (refine nst ?_)
 refine s_call0 (refCmp_ok a b ha hb') rfl rfl rfl (by rw [hn]; rfl) rfl rfl (by exact vcs) rfl rfl rfl ?_
 repeat (refine nst ?_)
 refine rt2 [] ?_ ?_
 · refine congrArg (fun x => lv (.bool x)) (?_ : (cmpL a b == 0) = decide (a = b))
   rw [Bool.eq_iff_iff]
   simp [cmpL_eq]
 · trivial

abbrev ExT : Type := List Int × Bool × List Int
abbrev exL (e : ExT) : List Leaf := [.ints .i64 e.1, .v (.bool e.2.1), .ints .u8 e.2.2]
abbrev exA (e : ExT) : Av := .agg [.lf (.ints .i64 e.1), .lf (.v (.bool e.2.1)), .lf (.ints .u8 e.2.2)]
abbrev exR (l : List ExT) : Av := .c (.lf (.recs 3 (l.map exL)))
def cutE (e : ExT) : ExT := (e.1.take 40, e.2.1, e.2.2.take 200)
def okE (e : ExT) : Prop := e.1.length ≤ 1000000 ∧ e.2.2.length ≤ 1000000
theorem minT (l : List Int) (n : Nat) : l.take (min (l.length : Int) (n : Int)).toNat = l.take n := by
 rcases Nat.le_total l.length n with h | h
 · rw [show (min (l.length : Int) (n : Int)).toNat = l.length by omega, List.take_length, List.take_of_length_le h]
 · rw [show (min (l.length : Int) (n : Int)).toNat = n by omega]
theorem to17_ok (e : ExT) (h1 : e.1.length ≤ 9223372036854775807) (h2 : e.2.2.length ≤ 9223372036854775807) : Ct Try.prog 11 [exA e] [] (exA (cutE e)) [] [] := by
 obtain ⟨o, c, v⟩ := e
 have e1 := minT o 40
 have e2 := minT v 200
 unfold cutE
 dsimp only at *
 refine Ct_intro Try.func11 rfl rfl rfl rfl rfl (fun E hn hb => ?_)
 repeat refine nx ?_
 rw [← e1, ← e2]
 exact rt1 []
theorem clone64_own (l : List Int) (hl : l.length ≤ 1000000) : Ct Try.prog 42 [I64 l] [] (.c (.own 0 1 0 l.length)) [] [.row (.ints .i64 l)] := by
 refine Ct_intro Try.func42 rfl rfl rfl rfl rfl (fun E hn hb => ?_)
 repeat (refine nst ?_)
 refine s_nilS (neg := false) rfl rfl (by rw [hn]; rfl) Try.underlying23 rfl (by simp) (by simp [szD]) (fun b hbl => ?_)
 simp [lenD] at hbl
 repeat (refine nst ?_)
 refine W_cond rfl (by simp) (fun hc => ?_) (fun hc => ?_)
 · have := hbl hc
   subst this
   repeat (refine nst ?_)
   refine N_own_nil 2 64 1 (.ints .i64 []) rfl rfl (.inr (.inl ⟨_, rfl⟩)) ?_
   exact N_ret [64] rfl trivial ⟨rfl, trivial, rfl, rfl⟩ hb rfl trivial
 · repeat (refine nst ?_)
   refine s_litI rfl rfl rfl (by rw [hn]; rfl) (elt_mk Try.underlying23 rfl rfl) (zok3) (by exact vcs) ⟨by decide, rfl⟩ ?_
   repeat (refine nst ?_)
   refine s_appI rfl rfl rfl rfl rfl rfl (by rw [hn]; rfl) (elt_mk Try.underlying23 rfl rfl) rfl rfl rfl rfl (by exact vcs) (by first | rfl | (simp; done) | (simp; omega)) ⟨by first | (simp; done) | (simp; omega) | (simp at *; omega), by decide⟩ ?_
   repeat (refine nst ?_)
   exact N_ret [69] rfl trivial ⟨rfl, trivial, rfl, rfl⟩ hb rfl trivial
theorem clone64_ok (l : List Int) (hl : l.length ≤ 1000000) : Ct Try.prog 42 [I64 l] [] (I64 l) [] [] :=
 (clone64_own l hl).freeze ⟨rfl, rfl, rfl, by simp, by simp⟩ rfl
theorem copied_ok (e : ExT) (h : okE e) : Ct Try.prog 22 [exA e] [] (exA e) [] [] := by
 obtain ⟨o, c, v⟩ := e
 have h1 := clone64_ok o h.1
 have h2 := clone_ok v h.2
 refine Ct_intro Try.func22 rfl rfl rfl rfl rfl (fun E hn hb => ?_)
 repeat refine nx ?_
 exact rt1 []
theorem is_ok (e : ExT) (o : List Int) (h : okE e) (ho : o.length ≤ 1000000) : Ct Try.prog 30 [exA e, I64 o] [] (lv (.bool (decide (e.1 = o)))) [] [] := by
 obtain ⟨q, c, v⟩ := e
 have h1 := oCmp_ok q o h.1 ho
 rw [show decide ((q, c, v).1 = o) = (cmpL q o == 0) from by rw [Bool.eq_iff_iff]; simp [cmpL_eq]]
 refine Ct_intro Try.func30 rfl rfl rfl rfl rfl (fun E hn hb => ?_)
 repeat refine nx ?_
 exact rt1 []
theorem isc_ok (e : ExT) (o : List Int) (h : okE e) (ho : o.length ≤ 1000000) : Ct Try.prog 41 [exA e, .c (.ptr 0 0)] [.cells [.lf (.ints .i64 o)]] (lv (.bool (decide (e.1 = o)))) [.cells [.lf (.ints .i64 o)]] [] := by
 have h1 := is_ok e o h ho
 refine Ct_intro Try.func41 rfl rfl rfl rfl rfl (fun E hn hb => ?_)
 repeat refine nx ?_
 exact rt1 []
def plG {α : Type} (p : α → Bool) : List α → Int
 | [] => -1
 | e :: l => if p e = true then 0 else if plG p l < 0 then -1 else plG p l + 1
theorem plG_drop {α : Type} [Inhabited α] {p : α → Bool} (l : List α) : ∀ k, k ≤ l.length → (∀ j, j < k → ¬ p (l.getD j default) = true) → plG p l = if plG p (l.drop k) < 0 then -1 else plG p (l.drop k) + k
 | 0, _, _ => by
   have : -1 ≤ plG p l := by cases l with | nil => simp [plG] | cons => simp only [plG]; split; omega; split <;> omega
   simp only [List.drop_zero]
   split <;> omega
 | k + 1, hk, h => by
   have ih := plG_drop (p := p) l k (by omega) fun j hj => h j (by omega)
   have hd : l.drop k = l.getD k default :: l.drop (k + 1) := by
     rw [List.drop_eq_getElem_cons (by omega), List.getD_eq_getElem?_getD, List.getElem?_eq_getElem (by omega)]
     rfl
   rw [ih, hd, plG, if_neg (h k (by omega))]
   by_cases h2 : plG p (l.drop (k + 1)) < 0
   · simp [h2]
   · simp only [h2, if_false]
     rw [if_neg (by omega)]
     omega
theorem plG_at {α : Type} [Inhabited α] {p : α → Bool} {l : List α} {k : Nat} (hk : k < l.length) (h : ∀ j, j < k → ¬ p (l.getD j default) = true) (h2 : p (l.getD k default) = true) : plG p l = k := by
 have ih := plG_drop l k (by omega) h
 have hd : l.drop k = l.getD k default :: l.drop (k + 1) := by
   rw [List.drop_eq_getElem_cons (by omega), List.getD_eq_getElem?_getD, List.getElem?_eq_getElem (by omega)]
   rfl
 rw [hd, plG, if_pos h2] at ih
 rw [ih]
 simp
theorem plG_none {α : Type} [Inhabited α] {p : α → Bool} {l : List α} (h : ∀ j, j < l.length → ¬ p (l.getD j default) = true) : plG p l = -1 := by
 have ih := plG_drop l l.length (Nat.le_refl _) h
 rw [ih, List.drop_length]
 rfl
theorem plG_range {α : Type} (p : α → Bool) : ∀ l : List α, plG p l = -1 ∨ ∃ k : Nat, plG p l = k ∧ k < l.length
 | [] => .inl rfl
 | e :: l => by
   rw [plG]
   by_cases h : p e = true
   · rw [if_pos h]; exact .inr ⟨0, rfl, by simp⟩
   · rw [if_neg h]
     rcases plG_range p l with h2 | ⟨k, h2, h3⟩
     · rw [h2, if_pos (by omega)]; exact .inl rfl
     · rw [h2, if_neg (by omega)]; exact .inr ⟨k + 1, by omega, by simp; omega⟩
abbrev plE (l : List ExT) (o : List Int) : Int := plG (fun e : ExT => decide (e.1 = o)) l
theorem okE_get {l : List ExT} (h : ∀ e ∈ l, okE e) (j : Nat) (hj : j < l.length) : okE (l.getD j default) := by
 rw [List.getD_eq_getElem?_getD, List.getElem?_eq_getElem hj]
 exact h _ (List.getElem_mem hj)
theorem plE_at {l : List ExT} {o : List Int} {k : Nat} (hk : k < l.length) (h : ∀ j, j < k → ¬ (l.getD j default).1 = o) (h2 : (l.getD k default).1 = o) : plE l o = k := plG_at hk (fun j hj => by simpa using h j hj) (by simpa using h2)
theorem plE_none {l : List ExT} {o : List Int} (h : ∀ j, j < l.length → ¬ (l.getD j default).1 = o) : plE l o = -1 := plG_none fun j hj => by simpa using h j hj
set_option maxHeartbeats 4000000 in
theorem idxf_ok (l : List ExT) (o : List Int) (hl : l.length ≤ 1000000) (h : ∀ e ∈ l, okE e) (ho : o.length ≤ 1000000) : Ct Try.prog 40 [exR l, .c (.fn (.func 41) [] [.ptr 0 0])] [.cells [.lf (.ints .i64 o)]] (lv (.int .i64 (plE l o))) [.cells [.lf (.ints .i64 o)]] [] := by
 refine Ct_intro Try.func40 rfl rfl rfl rfl rfl (fun E hn hb => ?_)
 repeat refine nx ?_
 rw [List.length_map]
 refine W_weaken (St.le_of (l := [(0, exR l), (1, .c (.fn (.func 41) [] [.ptr 0 0])), (7, lv (.int .i64 (l.length : Int))), (8, lv (.int .i64 ((0 : Nat) : Int)))]) (h := [(0, .cells [.lf (.ints .i64 o)])]) (by refine ⟨?_, ?_⟩ <;> (repeat' (first | exact trivial | exact rfl | refine ⟨?_, ?_⟩)) <;> first | exact rfl | (simp; done) | skip)) ?_
 refine W_loop (ι := {i : Nat // i ≤ l.length ∧ ∀ j, j < i → ¬ (l.getD j default).1 = o}) (fun i => St.of [(0, exR l), (1, .c (.fn (.func 41) [] [.ptr 0 0])), (7, lv (.int .i64 (l.length : Int))), (8, lv (.int .i64 (i.1 : Int)))] [(0, .cells [.lf (.ints .i64 o)])]) (fun i => l.length - i.1) (fun i => ?_) ⟨0, by omega, fun j h => by omega⟩
 obtain ⟨i, hi, hj⟩ := i
 dsimp only
 by_cases hi2 : i < l.length
 · have hok := okE_get h i hi2
   have hc := isc_ok (l.getD i default) o hok ho
   have hq : l.getD (i : Int).toNat default = l.getD i default := rfl
   by_cases h2 : (l.getD i default).1 = o
   · have hpl := plE_at hi2 hj h2
     rw [hpl]
     rw [decide_eq_true h2] at hc
     clear h2
     generalize l.getD i default = e at *
     repeat (first | refine nx ?_ | rw [hq])
     exact rt1 []
   · have hj2 : ∀ j, j < i + 1 → ¬ (l.getD j default).1 = o := fun j h => by
       by_cases h3 : j = i
       · subst h3; exact h2
       · exact hj j (by omega)
     rw [decide_eq_false h2] at hc
     clear h2
     generalize l.getD i default = e at *
     repeat (first | refine nx ?_ | rw [hq])
     refine N_round ⟨i + 1, by omega, hj2⟩ (by dsimp only; omega) (St.le_of ⟨⟨rfl, rfl, rfl, rfl⟩, rfl⟩)
 · obtain rfl : i = l.length := by omega
   rw [plE_none hj]
   repeat refine nx ?_
   exact rt1 []
theorem index_ok (l : List ExT) (o : List Int) (hl : l.length ≤ 1000000) (h : ∀ e ∈ l, okE e) (ho : o.length ≤ 1000000) : Ct Try.prog 21 [exR l, I64 o] [] (lv (.int .i64 (plE l o))) [] [] := by
 have h1 := idxf_ok l o hl h ho
 refine Ct_intro Try.func21 rfl rfl rfl rfl rfl (fun E hn hb => ?_)
 repeat refine nx ?_
 refine s_call [67] h1 rfl rfl (by rw [hn]; rfl) rfl rfl (by trivial) ⟨rfl, rfl, (by simp [ordL]), rfl⟩ ?_
 repeat refine nx ?_
 exact rt1 []
theorem place_ok (l : List ExT) (o : List Int) (hl : l.length ≤ 1000000) (h : ∀ e ∈ l, okE e) (ho : o.length ≤ 1000000) : Ct Try.prog 8 [exR l, I64 o] [] (lv (.int .i64 (plE l o))) [] [] := by
 refine Ct_intro Try.func8 rfl rfl rfl rfl rfl (fun E hn hb => ?_)
 repeat refine nx ?_
 refine W_weaken (St.le_of (l := [(0, exR l), (1, I64 o), (5, lv (.int .i64 ((0 : Nat) : Int)))]) (h := []) (by refine ⟨?_, ?_⟩ <;> (repeat' (first | exact trivial | exact rfl | refine ⟨?_, ?_⟩)) <;> first | exact rfl | (simp; done) | skip)) ?_
 refine W_loop (ι := {i : Nat // i ≤ l.length ∧ ∀ j, j < i → ¬ (l.getD j default).1 = o}) (fun i => St.of [(0, exR l), (1, I64 o), (5, lv (.int .i64 (i.1 : Int)))] []) (fun i => l.length - i.1) (fun i => ?_) ⟨0, by omega, fun j h => by omega⟩
 obtain ⟨i, hi, hj⟩ := i
 dsimp only
 by_cases hi2 : i < l.length
 · have hok := okE_get h i hi2
   have hc := refSame_ok (l.getD i default).1 o hok.1 ho
   have hq : l.getD (i : Int).toNat default = l.getD i default := rfl
   by_cases h2 : (l.getD i default).1 = o
   · have hpl := plE_at hi2 hj h2
     rw [hpl]
     rw [decide_eq_true h2] at hc
     clear h2
     generalize l.getD i default = e at *
     repeat (first | refine nx ?_ | rw [hq])
     exact rt1 []
   · have hj2 : ∀ j, j < i + 1 → ¬ (l.getD j default).1 = o := fun j h => by
       by_cases h3 : j = i
       · subst h3; exact h2
       · exact hj j (by omega)
     rw [decide_eq_false h2] at hc
     clear h2
     generalize l.getD i default = e at *
     repeat (first | refine nx ?_ | rw [hq])
     refine N_round ⟨i + 1, by omega, hj2⟩ (by dsimp only; omega) (St.le_of ⟨⟨rfl, rfl, rfl⟩, trivial⟩)
 · obtain rfl : i = l.length := by omega
   rw [plE_none hj]
   repeat refine nx ?_
   exact rt1 []
theorem find_ok (l : List ExT) (o : List Int) (hl : l.length ≤ 1000000) (h : ∀ e ∈ l, okE e) (ho : o.length ≤ 1000000) (i : Nat) (hi : i < l.length) (hp : plE l o = i) : Ct Try.prog 7 [exR l, I64 o] [] (.tup [exA (l.getD i default), lv (.bool true)]) [] [] := by
 have h1 := index_ok l o hl h ho
 rw [hp] at h1
 have h2 := copied_ok (l.getD i default) (okE_get h i hi)
 have hq : l.getD (i : Int).toNat default = l.getD i default := rfl
 generalize l.getD i default = e at *
 refine Ct_intro Try.func7 rfl rfl rfl rfl rfl (fun E hn hb => ?_)
 repeat (first | refine nx ?_ | rw [hq])
 exact rt1 []
end Go.Proofs.Ytaagjnlkinojcaa

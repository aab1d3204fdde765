/-
  Chapter 17: lists of extensions, cut, copied, compared. The conditions: rows of at most a million elements.
-/
import Derived.Test.YtaagjnlkinojcaaGreatDoorO8
import Derived.Test.YtaagjnlkinojcaaGreatDoorC4
import Derived.Test.YtaagjnlkinojcaaGreatDoorW10
import Derived.Test.YtaagjnlkinojcaaGreatDoorO6
import Derived.Test.YtaagjnlkinojcaaGreatDoorTy
namespace Go.Proofs.YtaagjnlkinojcaaGreatDoor
set_option linter.unusedSimpArgs false
set_option linter.unusedVariables false
open Go.Sx
set_option maxRecDepth 10000
theorem refRight_ok (o : List Int) (hl : o.length ≤ 1000000) : Ct Tryz.prog 21 [I64 o] [] (lv (.bool (rightO o))) [] [] := by
 obtain ⟨R, hR⟩ : ∃ R, rightO o = R := ⟨_, rfl⟩
 rw [hR]
 refine Ct_intro Tryz.func21 rfl rfl rfl rfl rfl (fun E hn hb => ?_)
 repeat (refine nst ?_)
 refine W_cond rfl (by simp) (fun hc => ?_) (fun hc => ?_)
 · have : R = false := by
     rw [← hR]
     simp at hc
     match o, hc with
     | [], _ => rfl
     | [_], _ => rfl
     | a :: b :: t, hc => simp at hc; rw [rightO_cons, if_pos (by omega)]
   subst this
   repeat (refine nst ?_)
   exact rt1 []
 · have hlen : 2 ≤ o.length ∧ o.length ≤ 32 := by simp at hc; omega
   repeat (refine nst ?_)
   refine W_weaken (St.le_of (l := [(0, I64 o), (3, lv (.int .i64 ((0 : Nat) : Int)))]) (h := []) (by refine ⟨?_, ?_⟩ <;> (repeat' (first | exact trivial | exact rfl | refine ⟨?_, ?_⟩)) <;> first | exact rfl | (simp; done) | skip)) ?_
   refine W_loop (ι := {i : Nat // i ≤ o.length ∧ (o.take i).all inR = true}) (fun i => St.of [(0, I64 o), (3, lv (.int .i64 (i.1 : Int)))] []) (fun i => o.length - i.1) (fun i => ?_) ⟨0, by omega, by simp⟩
   obtain ⟨i, hi, ha⟩ := i
   dsimp only
   repeat (refine nst ?_)
   refine W_cond rfl (by simp) (fun hc => ?_) (fun hc => ?_)
   · have hi2 : i < o.length := by simpa using hc
     repeat (refine nst ?_)
     refine W_cond rfl (by simp) (fun h2 => ?_) (fun h2 => ?_)
     · have : R = false := by
         rw [← hR]
         have hg := all_get hi2 (by simp [Bool.cond_eq_ite] at h2; simp only [inR, Bool.not_eq_false', Bool.or_eq_true, decide_eq_true_eq]; rw [List.getD_eq_getElem?_getD]; omega)
         match o, hlen, hg with
         | a :: b :: t, hlen, hg => rw [rightO_cons, hg]; simp
       subst this
       repeat (refine nst ?_)
       exact rt1 []
     · repeat (refine nst ?_)
       (refine N_round ?i1 ?i2 ?i3; (case i1 => exact ⟨i + 1, by omega, all_take hi2 ha (by simp [Bool.cond_eq_ite] at h2; simp only [inR, Bool.not_eq_true', Bool.or_eq_false_iff, decide_eq_false_iff_not]; rw [List.getD_eq_getElem?_getD]; omega)⟩); (case i2 => (dsimp only; omega)); (case i3 => refine St.le_of ⟨?_, ?_⟩ <;> (repeat' (first | exact trivial | exact rfl | refine ⟨?_, ?_⟩)) <;> first | exact rfl | (simp; done) | skip))
   · have : i = o.length := by simp at hc; omega
     subst this
     rw [List.take_length] at ha
     clear hi
     match o, hlen, ha, hR with
     | a :: b :: t, hlen, ha, hR =>
     have h30 : ¬ 30 < t.length := by simp at hlen; omega
     have ha0 : 0 ≤ a := by
       have := List.all_eq_true.1 ha a (by simp)
       simp [inR] at this
       exact this.1
     rw [rightO_cons, if_neg h30, ha, if_neg (by simp)] at hR
     repeat (refine nst ?_)
     refine rt2 [] ?_ ?_
     · refine congrArg (fun x => lv (.bool x)) (?_ : (bif bif decide (a < 2) then decide (b < 40) else false then true else bif a == 2 then decide (b ≤ 2147483567) else false) = R)
       rw [← hR]
       by_cases h0 : a = 0 ∨ a = 1
       · have h1 : a < 2 := by omega
         have h2 : (a == 2) = false := by simp; omega
         rw [if_pos h0, h2]
         simp [h1]
       · have h1 : ¬ a < 2 := by omega
         rw [if_neg h0]
         by_cases h2 : a = 2
         · simp [h2]
         · simp [h1, h2]
     · trivial
theorem refSame_ok (a b : List Int) (ha : a.length ≤ 1000000) (hb' : b.length ≤ 1000000) : Ct Tryz.prog 46 [I64 a, I64 b] [] (lv (.bool (decide (a = b)))) [] [] := by
 refine Ct_intro Tryz.func46 rfl rfl rfl rfl rfl (fun E hn hb => ?_)
 repeat (refine nst ?_)
 refine s_call0 (refCmp_ok a b ha hb') rfl rfl rfl (by rw [hn]; rfl) rfl rfl (by exact vcs) rfl rfl rfl ?_
 repeat (refine nst ?_)
 refine rt2 [] ?_ ?_
 · refine congrArg (fun x => lv (.bool x)) (?_ : (cmpL a b == 0) = decide (a = b))
   rw [Bool.eq_iff_iff]
   simp [cmpL_eq]
 · trivial
theorem arcL_small {n : Nat} (h : n < 128) : arcL n = [(n : Int)] := by
 have h1 : n / 128 = 0 := Nat.div_eq_of_lt h
 have h2 : n % 128 = n := Nat.mod_eq_of_lt h
 rw [arcL, h1, h2]
 rfl
theorem arcT_more : ∀ (k n : Nat), n < 128 ^ k → arcT (k + 1) n = arcT k n
 | 0, n, h => by
   have : n = 0 := by simpa using h
   subst this
   rfl
 | k + 1, n, h => by
   have h1 : n / 128 < 128 ^ k := by
     rw [Nat.pow_succ] at h
     exact Nat.div_lt_of_lt_mul (by rw [Nat.mul_comm]; exact h)
   have := arcT_more k (n / 128) h1
   unfold arcT
   split
   · rfl
   · rw [this]
theorem arcL_big {n : Nat} (h : ¬ n < 128) (h0 : n < 4294967296) : ∃ L, arcL (n / 128) = L ++ [((n / 128 % 128 : Nat) : Int)] ∧ arcL n = (L ++ [((n / 128 % 128 : Nat) : Int) + 128]) ++ [((n % 128 : Nat) : Int)] := by
 refine ⟨(arcT 5 (n / 128 / 128)).reverse, by simp [arcL], ?_⟩
 have h1 : n / 128 ≠ 0 := by omega
 have h2 := arcT_more 4 (n / 128 / 128) (by omega)
 rw [arcL]
 conv => lhs; unfold arcT
 rw [if_neg h1, ← h2]
 simp
set_option maxHeartbeats 1000000 in
theorem refDigits_ok : ∀ (k n : Nat), n < 128 ^ (k + 1) → n < 4294967296 → Ct Tryz.prog 125 [lv (.int .i64 (n : Int))] [] (.c (.own 0 1 0 (arcL n).length)) [] [.row (.ints .u8 (arcL n))]
 | k, n, h, h0 => by
   by_cases h1 : n < 128
   · rw [arcL_small h1]
     refine Ct_intro Tryz.func125 rfl rfl rfl rfl rfl (fun E hn hb => ?_)
     repeat (refine nst ?_)
     refine W_cond rfl (by simp) (fun hc => ?_) (fun hc => ?_)
     · repeat (refine nst ?_)
       refine s_litI rfl rfl rfl (by rw [hn]; rfl) (elt_mk Tryz.underlying22 rfl rfl) (zok5) (by exact vcs) ⟨by decide, rfl⟩ ?_
       repeat (refine nst ?_)
       exact rt1 [72]
     · simp at hc; omega
   · obtain ⟨k, rfl⟩ : ∃ k', k = k' + 1 := by
       cases k with
       | zero => simp at h; omega
       | succ k => exact ⟨k, rfl⟩
     have ih := refDigits_ok k (n / 128) (by
       rw [Nat.pow_succ] at h
       exact Nat.div_lt_of_lt_mul (by rw [Nat.mul_comm]; exact h)) (by omega)
     obtain ⟨L, e1, e2⟩ := arcL_big h1 h0
     have hLl : L.length ≤ 10 := by
       have := arcL_len (n / 128)
       rw [e1] at this
       simp at this
       omega
     have hx : n / 128 % 128 < 128 := Nat.mod_lt _ (by decide)
     rw [e1] at ih
     rw [e2]
     generalize n / 128 % 128 = x at *
     have el : (L ++ [((x : Nat) : Int)]).length = L.length + 1 := by simp
     rw [el] at ih
     have hq : (n : Int) / 128 = ((n / 128 : Nat) : Int) := by omega
     have hm : (n : Int) % 128 = ((n % 128 : Nat) : Int) := by omega
     refine Ct_intro Tryz.func125 rfl rfl rfl rfl rfl (fun E hn hb => ?_)
     repeat (refine nst ?_)
     refine W_cond rfl (by simp) (fun hc => ?_) (fun hc => ?_)
     · simp at hc; omega
     · repeat (refine nst ?_)
       rw [hq]
       have ei : 0 + ((((L.length + 1 : Nat) : Int)) - 1).toNat = L.length := by omega
       have eg : (L ++ [((x : Nat) : Int)]).getD L.length 0 = x := by simp
       have es : (L ++ [((x : Nat) : Int)]).set L.length ((x : Int) + 128) = L ++ [(x : Int) + 128] := by simp
       refine s_call1 ih rfl rfl rfl (by rw [hn]; rfl) rfl rfl (by exact vcs) rfl rfl rfl ?_
       repeat (refine nst ?_)
       rw [ei, eg]
       repeat (refine nst ?_)
       refine s_storeI rfl rfl rfl rfl rfl (by exact vcs) rfl (by rw [cellsOf5]) (by first | (simp; done) | (simp; omega) | (simp at *; omega)) ?_
       rw [es]
       repeat (refine nst ?_)
       rw [hm]
       refine s_litI rfl rfl rfl (by rw [hn]; rfl) (elt_mk Tryz.underlying22 rfl rfl) (zok5) (by exact vcs) ⟨by decide, rfl⟩ ?_
       repeat (refine nst ?_)
       have ef : (L ++ [(x : Int) + 128] ++ [((n % 128 : Nat) : Int)]).length = L.length + 1 + 1 := by simp
       have eL : L.length + 1 = (L ++ [(x : Int) + 128]).length := by simp
       rw [eL]
       refine s_appI rfl rfl rfl rfl rfl rfl (by rw [hn]; rfl) (elt_mk Tryz.underlying22 rfl rfl) rfl rfl rfl rfl (by exact vcs) (by first | rfl | (simp; done) | (simp; omega)) ⟨by first | (simp; done) | (simp; omega) | (simp at *; omega), by decide⟩ ?_
       repeat (refine nst ?_)
       exact rt1 [75]
theorem refCon_ok (o : List Int) (hr : rightO o = true) : Ct Tryz.prog 98 [I64 o] [] (B8 (arcsL (numsL o))) [] [] := by
 obtain ⟨a, b, t, rfl, ha0, ha2, hb0, hb1, ht, hx, _⟩ := right_nums hr
 have h1 := refDigits_ok 4 (40 * a + b).toNat (by omega) (by omega)
 rw [Int.toNat_of_nonneg (by omega)] at h1
 show Ct Tryz.prog 98 [I64 (a :: b :: t)] [] (B8 (arcsL ((40 * a + b) :: t))) [] []
 have e0 : arcsL ((40 * a + b) :: t) = arcL (40 * a + b).toNat ++ arcsL t := rfl
 rw [e0]
 generalize hA : arcL (40 * a + b).toNat = A at *
 have hAl : A.length ≤ 6 := by rw [← hA]; exact arcL_len _
 refine Ct_intro Tryz.func98 rfl rfl rfl rfl rfl (fun E hn hb => ?_)
 repeat (refine nst ?_)
 refine W_cond rfl (by simp) (fun hc => ?_) (fun hc => ?_)
 · simp at hc; omega
 repeat (refine nst ?_)
 refine W_drawW 8 (by kernel_rfl) (by kernel_rfl) (by kernel_rfl) (by rw [hn]; rfl) rfl rfl ?_
 repeat (first | refine dp1 ?_ | refine dg1 ?_ | refine DrawW_nil ?_)
 repeat (refine nst ?_)
 refine s_call1 h1 rfl rfl rfl (by rw [hn]; rfl) rfl rfl (by exact vcs) rfl rfl rfl ?_
 repeat (refine nst ?_)
 have hlen : (a :: b :: t).length = t.length + 2 := rfl
 rw [hlen]
 refine W_weaken (St.le_of (l := [(0, I64 (a :: b :: t)), (3, .c (.own 80 1 0 A.length)), (4, lv (.int .i64 (((0 : Nat) : Int) + 2)))]) (h := [(80, .row (.ints .u8 A))]) (by refine ⟨?_, ?_⟩ <;> (repeat' (first | exact trivial | exact rfl | refine ⟨?_, ?_⟩)) <;> first | exact rfl | (simp; done) | skip)) ?_
 refine W_loop (ι := {s : Nat × List Int // s.1 ≤ t.length ∧ s.2 = A ++ arcsL (t.take s.1)}) (fun s => St.of [(0, I64 (a :: b :: t)), (3, .c (.own 80 1 0 s.1.2.length)), (4, lv (.int .i64 ((s.1.1 : Int) + 2)))] [(80, .row (.ints .u8 s.1.2))]) (fun s => t.length - s.1.1) (fun s => ?_) ⟨(0, A), by dsimp only; omega, by simp [arcsL]⟩
 obtain ⟨⟨i, acc⟩, hi, he⟩ := s
 dsimp only at hi he ⊢
 repeat (refine nst ?_)
 refine W_cond rfl (by simp) (fun hc => ?_) (fun hc => ?_)
 · have hi2 : i < t.length := by
     have h3 : (i : Int) + 2 < ((a :: b :: t).length : Int) := by simpa using hc
     rw [hlen] at h3
     omega
   have hal : acc.length ≤ 1000 := by
     have := arcsL_len (t.take i)
     rw [he]
     simp at this ⊢
     omega
   have hxi : t.getD i 0 ∈ t := by rw [List.getD_eq_getElem?_getD, List.getElem?_eq_getElem hi2]; exact List.getElem_mem hi2
   have hxb := hx _ hxi
   have hnext := arcsL_take hi2
   have hd := refDigits_ok 4 (t.getD i 0).toNat (by omega) (by omega)
   rw [Int.toNat_of_nonneg hxb.1] at hd
   have hl2 := arcL_len (t.getD i 0).toNat
   have hg : (a :: b :: t).getD (((i : Int) + 2).toNat) 0 = t.getD i 0 := by
     have : ((i : Int) + 2).toNat = i + 2 := by omega
     rw [this]; rfl
   generalize hB : arcL (t.getD i 0).toNat = B at *
   generalize hX : t.getD i 0 = X at *
   repeat (refine nst ?_)
   rw [hg]
   refine s_call1 hd rfl rfl rfl (by rw [hn]; rfl) rfl rfl (by exact vcs) rfl rfl rfl ?_
   repeat (refine nst ?_)
   refine s_appI rfl rfl rfl rfl rfl rfl (by rw [hn]; rfl) (elt_mk Tryz.underlying22 rfl rfl) rfl rfl rfl rfl (by exact vcs) (by first | rfl | (simp; done) | (simp; omega)) ⟨by first | (simp; done) | (simp; omega) | (simp at *; omega), by decide⟩ ?_
   repeat (refine nst ?_)
   have e2 : (i : Int) + 2 + 1 = ((i + 1 : Nat) : Int) + 2 := by omega
   rw [e2]
   rw [List.take_length]
   (refine N_round ?i1 ?i2 ?i3; (case i1 => exact ⟨(i + 1, acc ++ B), by dsimp only; omega, by dsimp only; rw [hnext, he, List.append_assoc]⟩); (case i2 => (dsimp only; omega)); (case i3 => refine St.le_of ⟨?_, ?_⟩ <;> (repeat' (first | exact trivial | exact rfl | refine ⟨?_, ?_⟩)) <;> first | exact rfl | (simp; done) | skip))
 · have hi2 : i = t.length := by
     have h3 : ¬ (i : Int) + 2 < ((a :: b :: t).length : Int) := by simpa using hc
     rw [hlen] at h3
     omega
   subst hi2
   rw [List.take_length] at he
   subst he
   generalize A ++ arcsL t = X at *
   repeat (refine nst ?_)
   refine N_freeze 80 [(2, B8 X)] rfl hb ⟨⟨rfl, rfl, rfl, by simp, by simp⟩, rfl⟩ ?_
   exact rt1 []

abbrev ExT : Type := List Int × Bool × List Int
abbrev exL (e : ExT) : List Leaf := [.ints .i64 e.1, .v (.bool e.2.1), .ints .u8 e.2.2]
abbrev exA (e : ExT) : Av := .agg [.lf (.ints .i64 e.1), .lf (.v (.bool e.2.1)), .lf (.ints .u8 e.2.2)]
abbrev exR (l : List ExT) : Av := .c (.lf (.recs 3 (l.map exL)))
def cutE (e : ExT) : ExT := (e.1.take 40, e.2.1, e.2.2.take 200)
def okE (e : ExT) : Prop := e.1.length ≤ 1000000 ∧ e.2.2.length ≤ 1000000
theorem minT (l : List Int) (n : Nat) : l.take (min (l.length : Int) (n : Int)).toNat = l.take n := by
 rcases Nat.le_total l.length n with h | h
 · rw [show (min (l.length : Int) (n : Int)).toNat = l.length by omega, List.take_length, List.take_of_length_le h]
 · rw [show (min (l.length : Int) (n : Int)).toNat = n by omega]
theorem to17_ok (e : ExT) (h1 : e.1.length ≤ 9223372036854775807) (h2 : e.2.2.length ≤ 9223372036854775807) : Ct Tryz.prog 50 [exA e] [] (exA (cutE e)) [] [] := by
 obtain ⟨o, c, v⟩ := e
 have e1 := minT o 40
 have e2 := minT v 200
 unfold cutE
 dsimp only at *
 refine Ct_intro Tryz.func50 rfl rfl rfl rfl rfl (fun E hn hb => ?_)
 repeat refine nx ?_
 rw [← e1, ← e2]
 exact rt1 []
theorem clone64_own (l : List Int) (hl : l.length ≤ 1000000) : Ct Tryz.prog 113 [I64 l] [] (.c (.own 0 1 0 l.length)) [] [.row (.ints .i64 l)] := by
 refine Ct_intro Tryz.func113 rfl rfl rfl rfl rfl (fun E hn hb => ?_)
 repeat (refine nst ?_)
 refine s_nilS (neg := false) rfl rfl (by rw [hn]; rfl) Tryz.underlying25 rfl (by simp) (by simp [szD]) (fun b hbl => ?_)
 simp [lenD] at hbl
 repeat (refine nst ?_)
 refine W_cond rfl (by simp) (fun hc => ?_) (fun hc => ?_)
 · have := hbl hc
   subst this
   repeat (refine nst ?_)
   refine N_own_nil 2 64 1 (.ints .i64 []) rfl rfl (.inr (.inl ⟨_, rfl⟩)) ?_
   exact N_ret [64] rfl trivial ⟨rfl, trivial, rfl, rfl⟩ hb rfl trivial
 · repeat (refine nst ?_)
   refine s_litI rfl rfl rfl (by rw [hn]; rfl) (elt_mk Tryz.underlying25 rfl rfl) (zok3) (by exact vcs) ⟨by decide, rfl⟩ ?_
   repeat (refine nst ?_)
   refine s_appI rfl rfl rfl rfl rfl rfl (by rw [hn]; rfl) (elt_mk Tryz.underlying25 rfl rfl) rfl rfl rfl rfl (by exact vcs) (by first | rfl | (simp; done) | (simp; omega)) ⟨by first | (simp; done) | (simp; omega) | (simp at *; omega), by decide⟩ ?_
   repeat (refine nst ?_)
   exact N_ret [69] rfl trivial ⟨rfl, trivial, rfl, rfl⟩ hb rfl trivial
theorem clone64_ok (l : List Int) (hl : l.length ≤ 1000000) : Ct Tryz.prog 113 [I64 l] [] (I64 l) [] [] :=
 (clone64_own l hl).freeze ⟨rfl, rfl, rfl, by simp, by simp⟩ rfl
theorem copied_ok (e : ExT) (h : okE e) : Ct Tryz.prog 88 [exA e] [] (exA e) [] [] := by
 obtain ⟨o, c, v⟩ := e
 have h1 := clone64_ok o h.1
 have h2 := clone_ok v h.2
 refine Ct_intro Tryz.func88 rfl rfl rfl rfl rfl (fun E hn hb => ?_)
 repeat refine nx ?_
 exact rt1 []
theorem is_ok (e : ExT) (o : List Int) (h : okE e) (ho : o.length ≤ 1000000) : Ct Tryz.prog 112 [exA e, I64 o] [] (lv (.bool (decide (e.1 = o)))) [] [] := by
 obtain ⟨q, c, v⟩ := e
 have h1 := oCmp_ok q o h.1 ho
 rw [show decide ((q, c, v).1 = o) = (cmpL q o == 0) from by rw [Bool.eq_iff_iff]; simp [cmpL_eq]]
 refine Ct_intro Tryz.func112 rfl rfl rfl rfl rfl (fun E hn hb => ?_)
 repeat refine nx ?_
 exact rt1 []
theorem isc_ok (e : ExT) (o : List Int) (h : okE e) (ho : o.length ≤ 1000000) : Ct Tryz.prog 111 [exA e, .c (.ptr 0 0)] [.cells [.lf (.ints .i64 o)]] (lv (.bool (decide (e.1 = o)))) [.cells [.lf (.ints .i64 o)]] [] := by
 have h1 := is_ok e o h ho
 refine Ct_intro Tryz.func111 rfl rfl rfl rfl rfl (fun E hn hb => ?_)
 repeat refine nx ?_
 exact rt1 []
def plG {α : Type} (p : α → Bool) : List α → Int
 | [] => -1
 | e :: l => if p e = true then 0 else if plG p l < 0 then -1 else plG p l + 1
theorem plG_drop {α : Type} [Inhabited α] {p : α → Bool} (l : List α) : ∀ k, k ≤ l.length → (∀ j, j < k → ¬ p (l.getD j default) = true) → plG p l = if plG p (l.drop k) < 0 then -1 else plG p (l.drop k) + k
 | 0, _, _ => by
   have : -1 ≤ plG p l := by cases l with | nil => simp [plG] | cons => simp only [plG]; split; omega; split <;> omega
   simp only [List.drop_zero]
   split <;> omega
 | k + 1, hk, h => by
   have ih := plG_drop (p := p) l k (by omega) fun j hj => h j (by omega)
   have hd : l.drop k = l.getD k default :: l.drop (k + 1) := by
     rw [List.drop_eq_getElem_cons (by omega), List.getD_eq_getElem?_getD, List.getElem?_eq_getElem (by omega)]
     rfl
   rw [ih, hd, plG, if_neg (h k (by omega))]
   by_cases h2 : plG p (l.drop (k + 1)) < 0
   · simp [h2]
   · simp only [h2, if_false]
     rw [if_neg (by omega)]
     omega
theorem plG_at {α : Type} [Inhabited α] {p : α → Bool} {l : List α} {k : Nat} (hk : k < l.length) (h : ∀ j, j < k → ¬ p (l.getD j default) = true) (h2 : p (l.getD k default) = true) : plG p l = k := by
 have ih := plG_drop l k (by omega) h
 have hd : l.drop k = l.getD k default :: l.drop (k + 1) := by
   rw [List.drop_eq_getElem_cons (by omega), List.getD_eq_getElem?_getD, List.getElem?_eq_getElem (by omega)]
   rfl
 rw [hd, plG, if_pos h2] at ih
 rw [ih]
 simp
theorem plG_none {α : Type} [Inhabited α] {p : α → Bool} {l : List α} (h : ∀ j, j < l.length → ¬ p (l.getD j default) = true) : plG p l = -1 := by
 have ih := plG_drop l l.length (Nat.le_refl _) h
 rw [ih, List.drop_length]
 rfl
abbrev plE (l : List ExT) (o : List Int) : Int := plG (fun e : ExT => decide (e.1 = o)) l
theorem okE_get {l : List ExT} (h : ∀ e ∈ l, okE e) (j : Nat) (hj : j < l.length) : okE (l.getD j default) := by
 rw [List.getD_eq_getElem?_getD, List.getElem?_eq_getElem hj]
 exact h _ (List.getElem_mem hj)
theorem plE_at {l : List ExT} {o : List Int} {k : Nat} (hk : k < l.length) (h : ∀ j, j < k → ¬ (l.getD j default).1 = o) (h2 : (l.getD k default).1 = o) : plE l o = k := plG_at hk (fun j hj => by simpa using h j hj) (by simpa using h2)
theorem plE_none {l : List ExT} {o : List Int} (h : ∀ j, j < l.length → ¬ (l.getD j default).1 = o) : plE l o = -1 := plG_none fun j hj => by simpa using h j hj
set_option maxHeartbeats 4000000 in
theorem idxf_ok (l : List ExT) (o : List Int) (hl : l.length ≤ 1000000) (h : ∀ e ∈ l, okE e) (ho : o.length ≤ 1000000) : Ct Tryz.prog 110 [exR l, .c (.fn (.func 111) [] [.ptr 0 0])] [.cells [.lf (.ints .i64 o)]] (lv (.int .i64 (plE l o))) [.cells [.lf (.ints .i64 o)]] [] := by
 refine Ct_intro Tryz.func110 rfl rfl rfl rfl rfl (fun E hn hb => ?_)
 repeat refine nx ?_
 rw [List.length_map]
 refine W_weaken (St.le_of (l := [(0, exR l), (1, .c (.fn (.func 111) [] [.ptr 0 0])), (7, lv (.int .i64 (l.length : Int))), (8, lv (.int .i64 ((0 : Nat) : Int)))]) (h := [(0, .cells [.lf (.ints .i64 o)])]) (by refine ⟨?_, ?_⟩ <;> (repeat' (first | exact trivial | exact rfl | refine ⟨?_, ?_⟩)) <;> first | exact rfl | (simp; done) | skip)) ?_
 refine W_loop (ι := {i : Nat // i ≤ l.length ∧ ∀ j, j < i → ¬ (l.getD j default).1 = o}) (fun i => St.of [(0, exR l), (1, .c (.fn (.func 111) [] [.ptr 0 0])), (7, lv (.int .i64 (l.length : Int))), (8, lv (.int .i64 (i.1 : Int)))] [(0, .cells [.lf (.ints .i64 o)])]) (fun i => l.length - i.1) (fun i => ?_) ⟨0, by omega, fun j h => by omega⟩
 obtain ⟨i, hi, hj⟩ := i
 dsimp only
 by_cases hi2 : i < l.length
 · have hok := okE_get h i hi2
   have hc := isc_ok (l.getD i default) o hok ho
   have hq : l.getD (i : Int).toNat default = l.getD i default := rfl
   by_cases h2 : (l.getD i default).1 = o
   · have hpl := plE_at hi2 hj h2
     rw [hpl]
     rw [decide_eq_true h2] at hc
     clear h2
     generalize l.getD i default = e at *
     repeat (first | refine nx ?_ | rw [hq])
     exact rt1 []
   · have hj2 : ∀ j, j < i + 1 → ¬ (l.getD j default).1 = o := fun j h => by
       by_cases h3 : j = i
       · subst h3; exact h2
       · exact hj j (by omega)
     rw [decide_eq_false h2] at hc
     clear h2
     generalize l.getD i default = e at *
     repeat (first | refine nx ?_ | rw [hq])
     refine N_round ⟨i + 1, by omega, hj2⟩ (by dsimp only; omega) (St.le_of ⟨⟨rfl, rfl, rfl, rfl⟩, rfl⟩)
 · obtain rfl : i = l.length := by omega
   rw [plE_none hj]
   repeat refine nx ?_
   exact rt1 []
theorem index_ok (l : List ExT) (o : List Int) (hl : l.length ≤ 1000000) (h : ∀ e ∈ l, okE e) (ho : o.length ≤ 1000000) : Ct Tryz.prog 87 [exR l, I64 o] [] (lv (.int .i64 (plE l o))) [] [] := by
 have h1 := idxf_ok l o hl h ho
 refine Ct_intro Tryz.func87 rfl rfl rfl rfl rfl (fun E hn hb => ?_)
 repeat refine nx ?_
 refine s_call [67] h1 rfl rfl (by rw [hn]; rfl) rfl rfl (by trivial) ⟨rfl, rfl, (by simp [ordL]), rfl⟩ ?_
 repeat refine nx ?_
 exact rt1 []
theorem find_ok (l : List ExT) (o : List Int) (hl : l.length ≤ 1000000) (h : ∀ e ∈ l, okE e) (ho : o.length ≤ 1000000) (i : Nat) (hi : i < l.length) (hp : plE l o = i) : Ct Tryz.prog 48 [exR l, I64 o] [] (.tup [exA (l.getD i default), lv (.bool true)]) [] [] := by
 have h1 := index_ok l o hl h ho
 rw [hp] at h1
 have h2 := copied_ok (l.getD i default) (okE_get h i hi)
 have hq : l.getD (i : Int).toNat default = l.getD i default := rfl
 generalize l.getD i default = e at *
 refine Ct_intro Tryz.func48 rfl rfl rfl rfl rfl (fun E hn hb => ?_)
 repeat (first | refine nx ?_ | rw [hq])
 exact rt1 []

theorem take_next {α β : Type} [Inhabited α] (f : α → β) (l : List α) (i : Nat) (h : i < l.length) : (l.take (i + 1)).map f = (l.take i).map f ++ [f (l.getD i default)] := by
 rw [List.take_add_one, List.map_append, List.getD_eq_getElem?_getD, List.getElem?_eq_getElem h]
 rfl
theorem get_mem {α : Type} [Inhabited α] {l : List α} {i : Nat} (h : i < l.length) : l.getD i default ∈ l := by
 rw [List.getD_eq_getElem?_getD, List.getElem?_eq_getElem h]
 exact List.getElem_mem h
def fewE (l : List ExT) : List ExT := (l.take 70).map cutE
set_option maxHeartbeats 4000000 in
theorem few17_ok (l : List ExT) (hl : l.length ≤ 9223372036854775807) (hw : ∀ e ∈ l, e.1.length ≤ 9223372036854775807 ∧ e.2.2.length ≤ 9223372036854775807) : Ct Tryz.prog 16 [exR l] [] (exR (fewE l)) [] [] := by
 refine Ct_intro Tryz.func16 rfl rfl rfl rfl rfl (fun E hn hb => ?_)
 repeat refine nx ?_
 refine W_own_nil 3 900 3 (.recs 3 []) rfl rfl (.inr (.inr ⟨_, rfl⟩)) ?_
 refine W_weaken (St.le_of (l := [(0, exR l), (3, .c (.own 900 3 0 0)), (4, lv (.int .i64 ((0 : Nat) : Int)))]) (h := [(900, .row (.recs 3 []))]) (by refine ⟨?_, ?_⟩ <;> (repeat' (first | exact trivial | exact rfl | refine ⟨?_, ?_⟩)) <;> first | exact rfl | (simp; done) | skip)) ?_
 refine W_loop (ι := {i : Nat // i ≤ l.length ∧ i ≤ 70}) (fun i => St.of [(0, exR l), (3, .c (.own 900 3 0 (((l.take i.1).map cutE).map exL).length)), (4, lv (.int .i64 (i.1 : Int)))] [(900, .row (.recs 3 (((l.take i.1).map cutE).map exL)))]) (fun i => 70 - i.1) (fun i => ?_) ⟨0, by omega, by omega⟩
 obtain ⟨i, hi, hi70⟩ := i
 dsimp only
 by_cases hi2 : i < l.length ∧ i < 70
 · have hnx := take_next cutE l i hi2.1
   have hm := hw _ (get_mem hi2.1)
   have h1 := to17_ok (l.getD i default) hm.1 hm.2
   have hq : l.getD (i : Int).toNat default = l.getD i default := rfl
   have hal : ((l.take i).map cutE).length ≤ 70 := by simp; omega
   generalize hacc : (l.take i).map cutE = acc at *
   generalize cutE (l.getD i default) = c at *
   generalize l.getD i default = x at *
   repeat (first | refine nx ?_ | rw [hq])
   refine N_round ⟨i + 1, by omega, by omega⟩ (by dsimp only; omega) (St.le_of ⟨⟨rfl, ?_, rfl⟩, ?_⟩)
   · dsimp only; rw [hnx, List.map_append]; rfl
   · dsimp only; rw [hnx, List.map_append]; rfl
 · have e : (l.take i).map cutE = fewE l := by
     unfold fewE
     by_cases h : i = 70
     · rw [h]
     · rw [List.take_of_length_le (show l.length ≤ i by omega), List.take_of_length_le (show l.length ≤ 70 by omega)]
   rw [e]
   repeat refine nx ?_
   refine frzN 2 ?_
   exact rt1 []
set_option maxHeartbeats 4000000 in
theorem all17_ok (l : List ExT) (hl : l.length ≤ 1000000) : Ct Tryz.prog 14 [exR l] [] (exR l) [] [] := by
 refine Ct_intro Tryz.func14 rfl rfl rfl rfl rfl (fun E hn hb => ?_)
 repeat refine nx ?_
 refine W_own_nil 3 900 3 (.recs 3 []) rfl rfl (.inr (.inr ⟨_, rfl⟩)) ?_
 refine W_weaken (St.le_of (l := [(0, exR l), (3, .c (.own 900 3 0 0)), (4, lv (.int .i64 ((0 : Nat) : Int)))]) (h := [(900, .row (.recs 3 []))]) (by refine ⟨?_, ?_⟩ <;> (repeat' (first | exact trivial | exact rfl | refine ⟨?_, ?_⟩)) <;> first | exact rfl | (simp; done) | skip)) ?_
 refine W_loop (ι := {i : Nat // i ≤ l.length}) (fun i => St.of [(0, exR l), (3, .c (.own 900 3 0 (((l.take i.1).map id).map exL).length)), (4, lv (.int .i64 (i.1 : Int)))] [(900, .row (.recs 3 (((l.take i.1).map id).map exL)))]) (fun i => l.length - i.1) (fun i => ?_) ⟨0, by omega⟩
 obtain ⟨i, hi⟩ := i
 dsimp only
 by_cases hi2 : i < l.length
 · have hnx := take_next id l i hi2
   have hq : l.getD (i : Int).toNat default = l.getD i default := rfl
   have hal : ((l.take i).map id).length ≤ 1000000 := by simp; omega
   generalize hacc : (l.take i).map id = acc at *
   rw [id] at hnx
   generalize l.getD i default = x at *
   obtain ⟨o, c, v⟩ := x
   repeat refine nxw ?_
   refine W_drawW 18 (by kernel_rfl) (by kernel_rfl) (by kernel_rfl) (by rw [hn]; rfl) rfl rfl ?_
   repeat (first | refine nx ?_ | rw [hq])
   refine N_round ⟨i + 1, by omega⟩ (by dsimp only; omega) (St.le_of ⟨⟨rfl, ?_, rfl⟩, ?_⟩)
   · dsimp only; rw [hnx, List.map_append]; rfl
   · dsimp only; rw [hnx, List.map_append]; rfl
 · obtain rfl : i = l.length := by omega
   rw [List.take_length, List.map_id]
   repeat refine nx ?_
   refine frzN 2 ?_
   exact rt1 []
end Go.Proofs.YtaagjnlkinojcaaGreatDoor

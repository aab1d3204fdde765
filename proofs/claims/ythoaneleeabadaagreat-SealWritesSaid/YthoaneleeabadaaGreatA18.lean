/-
  Chapter 18's law AlgoReads, walked: it returns true. The conditions: rows of bytes that a machine can hold.
-/
import Derived.Test.YthoaneleeabadaaGreatO7
import Derived.Test.YthoaneleeabadaaGreatO3
import Derived.Test.YthoaneleeabadaaGreatC4
import Derived.Test.YthoaneleeabadaaGreatW16
import Derived.Test.YthoaneleeabadaaGreatD8
import Derived.Test.YthoaneleeabadaaGreatA13
import Derived.Test.YthoaneleeabadaaGreatB16
import Derived.Test.YthoaneleeabadaaGreatA14
namespace Go.Proofs.YthoaneleeabadaaGreat
set_option linter.unusedSimpArgs false
set_option linter.unusedVariables false
open Go.Sx
set_option maxRecDepth 10000
theorem refRight_ok (o : List Int) (hl : o.length ≤ 1000000) : Ct Tryz.prog 71 [I64 o] [] (lv (.bool (rightO o))) [] [] := by
 obtain ⟨R, hR⟩ : ∃ R, rightO o = R := ⟨_, rfl⟩
 rw [hR]
 refine Ct_intro Tryz.func71 rfl rfl rfl rfl rfl (fun E hn hb => ?_)
 repeat (refine nst ?_)
 refine W_cond rfl (by simp) (fun hc => ?_) (fun hc => ?_)
 · have : R = false := by
     rw [← hR]
     simp at hc
     match o, hc with
     | [], _ => rfl
     | [_], _ => rfl
     | a :: b :: t, hc => simp at hc; rw [rightO_cons, if_pos (by omega)]
   subst this
   repeat (refine nst ?_)
   exact rt1 []
 · have hlen : 2 ≤ o.length ∧ o.length ≤ 32 := by simp at hc; omega
   repeat (refine nst ?_)
   refine W_weaken (St.le_of (l := [(0, I64 o), (3, lv (.int .i64 ((0 : Nat) : Int)))]) (h := []) (by refine ⟨?_, ?_⟩ <;> (repeat' (first | exact trivial | exact rfl | refine ⟨?_, ?_⟩)) <;> first | exact rfl | (simp; done) | skip)) ?_
   refine W_loop (ι := {i : Nat // i ≤ o.length ∧ (o.take i).all inR = true}) (fun i => St.of [(0, I64 o), (3, lv (.int .i64 (i.1 : Int)))] []) (fun i => o.length - i.1) (fun i => ?_) ⟨0, by omega, by simp⟩
   obtain ⟨i, hi, ha⟩ := i
   dsimp only
   repeat (refine nst ?_)
   refine W_cond rfl (by simp) (fun hc => ?_) (fun hc => ?_)
   · have hi2 : i < o.length := by simpa using hc
     repeat (refine nst ?_)
     refine W_cond rfl (by simp) (fun h2 => ?_) (fun h2 => ?_)
     · have : R = false := by
         rw [← hR]
         have hg := all_get hi2 (by simp [Bool.cond_eq_ite] at h2; simp only [inR, Bool.not_eq_false', Bool.or_eq_true, decide_eq_true_eq]; rw [List.getD_eq_getElem?_getD]; omega)
         match o, hlen, hg with
         | a :: b :: t, hlen, hg => rw [rightO_cons, hg]; simp
       subst this
       repeat (refine nst ?_)
       exact rt1 []
     · repeat (refine nst ?_)
       (refine N_round ?i1 ?i2 ?i3; (case i1 => exact ⟨i + 1, by omega, all_take hi2 ha (by simp [Bool.cond_eq_ite] at h2; simp only [inR, Bool.not_eq_true', Bool.or_eq_false_iff, decide_eq_false_iff_not]; rw [List.getD_eq_getElem?_getD]; omega)⟩); (case i2 => (dsimp only; omega)); (case i3 => refine St.le_of ⟨?_, ?_⟩ <;> (repeat' (first | exact trivial | exact rfl | refine ⟨?_, ?_⟩)) <;> first | exact rfl | (simp; done) | skip))
   · have : i = o.length := by simp at hc; omega
     subst this
     rw [List.take_length] at ha
     clear hi
     match o, hlen, ha, hR with
     | a :: b :: t, hlen, ha, hR =>
     have h30 : ¬ 30 < t.length := by simp at hlen; omega
     have ha0 : 0 ≤ a := by
       have := List.all_eq_true.1 ha a (by simp)
       simp [inR] at this
       exact this.1
     rw [rightO_cons, if_neg h30, ha, if_neg (by simp)] at hR
     repeat (refine nst ?_)
     refine rt2 [] ?_ ?_
     · refine congrArg (fun x => lv (.bool x)) (?_ : (bif bif decide (a < 2) then decide (b < 40) else false then true else bif a == 2 then decide (b ≤ 2147483567) else false) = R)
       rw [← hR]
       by_cases h0 : a = 0 ∨ a = 1
       · have h1 : a < 2 := by omega
         have h2 : (a == 2) = false := by simp; omega
         rw [if_pos h0, h2]
         simp [h1]
       · have h1 : ¬ a < 2 := by omega
         rw [if_neg h0]
         by_cases h2 : a = 2
         · simp [h2]
         · simp [h1, h2]
     · trivial
theorem refSame_ok (a b : List Int) (ha : a.length ≤ 1000000) (hb' : b.length ≤ 1000000) : Ct Tryz.prog 67 [I64 a, I64 b] [] (lv (.bool (decide (a = b)))) [] [] := by
 refine Ct_intro Tryz.func67 rfl rfl rfl rfl rfl (fun E hn hb => ?_)
 repeat (refine nst ?_)
 refine s_call0 (refCmp_ok a b ha hb') rfl rfl rfl (by rw [hn]; rfl) rfl rfl (by exact vcs) rfl rfl rfl ?_
 repeat (refine nst ?_)
 refine rt2 [] ?_ ?_
 · refine congrArg (fun x => lv (.bool x)) (?_ : (cmpL a b == 0) = decide (a = b))
   rw [Bool.eq_iff_iff]
   simp [cmpL_eq]
 · trivial
theorem arcL_small {n : Nat} (h : n < 128) : arcL n = [(n : Int)] := by
 have h1 : n / 128 = 0 := Nat.div_eq_of_lt h
 have h2 : n % 128 = n := Nat.mod_eq_of_lt h
 rw [arcL, h1, h2]
 rfl
theorem arcT_more : ∀ (k n : Nat), n < 128 ^ k → arcT (k + 1) n = arcT k n
 | 0, n, h => by
   have : n = 0 := by simpa using h
   subst this
   rfl
 | k + 1, n, h => by
   have h1 : n / 128 < 128 ^ k := by
     rw [Nat.pow_succ] at h
     exact Nat.div_lt_of_lt_mul (by rw [Nat.mul_comm]; exact h)
   have := arcT_more k (n / 128) h1
   unfold arcT
   split
   · rfl
   · rw [this]
theorem arcL_big {n : Nat} (h : ¬ n < 128) (h0 : n < 4294967296) : ∃ L, arcL (n / 128) = L ++ [((n / 128 % 128 : Nat) : Int)] ∧ arcL n = (L ++ [((n / 128 % 128 : Nat) : Int) + 128]) ++ [((n % 128 : Nat) : Int)] := by
 refine ⟨(arcT 5 (n / 128 / 128)).reverse, by simp [arcL], ?_⟩
 have h1 : n / 128 ≠ 0 := by omega
 have h2 := arcT_more 4 (n / 128 / 128) (by omega)
 rw [arcL]
 conv => lhs; unfold arcT
 rw [if_neg h1, ← h2]
 simp
set_option maxHeartbeats 1000000 in
theorem refDigits_ok : ∀ (k n : Nat), n < 128 ^ (k + 1) → n < 4294967296 → Ct Tryz.prog 157 [lv (.int .i64 (n : Int))] [] (.c (.own 0 1 0 (arcL n).length)) [] [.row (.ints .u8 (arcL n))]
 | k, n, h, h0 => by
   by_cases h1 : n < 128
   · rw [arcL_small h1]
     refine Ct_intro Tryz.func157 rfl rfl rfl rfl rfl (fun E hn hb => ?_)
     repeat (refine nst ?_)
     refine W_cond rfl (by simp) (fun hc => ?_) (fun hc => ?_)
     · repeat (refine nst ?_)
       refine s_litI rfl rfl rfl (by rw [hn]; rfl) (elt_mk Tryz.underlying23 rfl rfl) (zok5) (by exact vcs) ⟨by decide, rfl⟩ ?_
       repeat (refine nst ?_)
       exact rt1 [72]
     · simp at hc; omega
   · obtain ⟨k, rfl⟩ : ∃ k', k = k' + 1 := by
       cases k with
       | zero => simp at h; omega
       | succ k => exact ⟨k, rfl⟩
     have ih := refDigits_ok k (n / 128) (by
       rw [Nat.pow_succ] at h
       exact Nat.div_lt_of_lt_mul (by rw [Nat.mul_comm]; exact h)) (by omega)
     obtain ⟨L, e1, e2⟩ := arcL_big h1 h0
     have hLl : L.length ≤ 10 := by
       have := arcL_len (n / 128)
       rw [e1] at this
       simp at this
       omega
     have hx : n / 128 % 128 < 128 := Nat.mod_lt _ (by decide)
     rw [e1] at ih
     rw [e2]
     generalize n / 128 % 128 = x at *
     have el : (L ++ [((x : Nat) : Int)]).length = L.length + 1 := by simp
     rw [el] at ih
     have hq : (n : Int) / 128 = ((n / 128 : Nat) : Int) := by omega
     have hm : (n : Int) % 128 = ((n % 128 : Nat) : Int) := by omega
     refine Ct_intro Tryz.func157 rfl rfl rfl rfl rfl (fun E hn hb => ?_)
     repeat (refine nst ?_)
     refine W_cond rfl (by simp) (fun hc => ?_) (fun hc => ?_)
     · simp at hc; omega
     · repeat (refine nst ?_)
       rw [hq]
       have ei : 0 + ((((L.length + 1 : Nat) : Int)) - 1).toNat = L.length := by omega
       have eg : (L ++ [((x : Nat) : Int)]).getD L.length 0 = x := by simp
       have es : (L ++ [((x : Nat) : Int)]).set L.length ((x : Int) + 128) = L ++ [(x : Int) + 128] := by simp
       refine s_call1 ih rfl rfl rfl (by rw [hn]; rfl) rfl rfl (by exact vcs) rfl rfl rfl ?_
       repeat (refine nst ?_)
       rw [ei, eg]
       repeat (refine nst ?_)
       refine s_storeI rfl rfl rfl rfl rfl (by exact vcs) rfl (by rw [cellsOf5]) (by first | (simp; done) | (simp; omega) | (simp at *; omega)) ?_
       rw [es]
       repeat (refine nst ?_)
       rw [hm]
       refine s_litI rfl rfl rfl (by rw [hn]; rfl) (elt_mk Tryz.underlying23 rfl rfl) (zok5) (by exact vcs) ⟨by decide, rfl⟩ ?_
       repeat (refine nst ?_)
       have ef : (L ++ [(x : Int) + 128] ++ [((n % 128 : Nat) : Int)]).length = L.length + 1 + 1 := by simp
       have eL : L.length + 1 = (L ++ [(x : Int) + 128]).length := by simp
       rw [eL]
       refine s_appI rfl rfl rfl rfl rfl rfl (by rw [hn]; rfl) (elt_mk Tryz.underlying23 rfl rfl) rfl rfl rfl rfl (by exact vcs) (by first | rfl | (simp; done) | (simp; omega)) ⟨by first | (simp; done) | (simp; omega) | (simp at *; omega), by decide⟩ ?_
       repeat (refine nst ?_)
       exact rt1 [75]
theorem refCon_ok (o : List Int) (hr : rightO o = true) : Ct Tryz.prog 123 [I64 o] [] (B8 (arcsL (numsL o))) [] [] := by
 obtain ⟨a, b, t, rfl, ha0, ha2, hb0, hb1, ht, hx, _⟩ := right_nums hr
 have h1 := refDigits_ok 4 (40 * a + b).toNat (by omega) (by omega)
 rw [Int.toNat_of_nonneg (by omega)] at h1
 show Ct Tryz.prog 123 [I64 (a :: b :: t)] [] (B8 (arcsL ((40 * a + b) :: t))) [] []
 have e0 : arcsL ((40 * a + b) :: t) = arcL (40 * a + b).toNat ++ arcsL t := rfl
 rw [e0]
 generalize hA : arcL (40 * a + b).toNat = A at *
 have hAl : A.length ≤ 6 := by rw [← hA]; exact arcL_len _
 refine Ct_intro Tryz.func123 rfl rfl rfl rfl rfl (fun E hn hb => ?_)
 repeat (refine nst ?_)
 refine W_cond rfl (by simp) (fun hc => ?_) (fun hc => ?_)
 · simp at hc; omega
 repeat (refine nst ?_)
 refine W_drawW 8 (by kernel_rfl) (by kernel_rfl) (by kernel_rfl) (by rw [hn]; rfl) rfl rfl ?_
 repeat (first | refine dp1 ?_ | refine dg1 ?_ | refine DrawW_nil ?_)
 repeat (refine nst ?_)
 refine s_call1 h1 rfl rfl rfl (by rw [hn]; rfl) rfl rfl (by exact vcs) rfl rfl rfl ?_
 repeat (refine nst ?_)
 have hlen : (a :: b :: t).length = t.length + 2 := rfl
 rw [hlen]
 refine W_weaken (St.le_of (l := [(0, I64 (a :: b :: t)), (3, .c (.own 80 1 0 A.length)), (4, lv (.int .i64 (((0 : Nat) : Int) + 2)))]) (h := [(80, .row (.ints .u8 A))]) (by refine ⟨?_, ?_⟩ <;> (repeat' (first | exact trivial | exact rfl | refine ⟨?_, ?_⟩)) <;> first | exact rfl | (simp; done) | skip)) ?_
 refine W_loop (ι := {s : Nat × List Int // s.1 ≤ t.length ∧ s.2 = A ++ arcsL (t.take s.1)}) (fun s => St.of [(0, I64 (a :: b :: t)), (3, .c (.own 80 1 0 s.1.2.length)), (4, lv (.int .i64 ((s.1.1 : Int) + 2)))] [(80, .row (.ints .u8 s.1.2))]) (fun s => t.length - s.1.1) (fun s => ?_) ⟨(0, A), by dsimp only; omega, by simp [arcsL]⟩
 obtain ⟨⟨i, acc⟩, hi, he⟩ := s
 dsimp only at hi he ⊢
 repeat (refine nst ?_)
 refine W_cond rfl (by simp) (fun hc => ?_) (fun hc => ?_)
 · have hi2 : i < t.length := by
     have h3 : (i : Int) + 2 < ((a :: b :: t).length : Int) := by simpa using hc
     rw [hlen] at h3
     omega
   have hal : acc.length ≤ 1000 := by
     have := arcsL_len (t.take i)
     rw [he]
     simp at this ⊢
     omega
   have hxi : t.getD i 0 ∈ t := by rw [List.getD_eq_getElem?_getD, List.getElem?_eq_getElem hi2]; exact List.getElem_mem hi2
   have hxb := hx _ hxi
   have hnext := arcsL_take hi2
   have hd := refDigits_ok 4 (t.getD i 0).toNat (by omega) (by omega)
   rw [Int.toNat_of_nonneg hxb.1] at hd
   have hl2 := arcL_len (t.getD i 0).toNat
   have hg : (a :: b :: t).getD (((i : Int) + 2).toNat) 0 = t.getD i 0 := by
     have : ((i : Int) + 2).toNat = i + 2 := by omega
     rw [this]; rfl
   generalize hB : arcL (t.getD i 0).toNat = B at *
   generalize hX : t.getD i 0 = X at *
   repeat (refine nst ?_)
   rw [hg]
   refine s_call1 hd rfl rfl rfl (by rw [hn]; rfl) rfl rfl (by exact vcs) rfl rfl rfl ?_
   repeat (refine nst ?_)
   refine s_appI rfl rfl rfl rfl rfl rfl (by rw [hn]; rfl) (elt_mk Tryz.underlying23 rfl rfl) rfl rfl rfl rfl (by exact vcs) (by first | rfl | (simp; done) | (simp; omega)) ⟨by first | (simp; done) | (simp; omega) | (simp at *; omega), by decide⟩ ?_
   repeat (refine nst ?_)
   have e2 : (i : Int) + 2 + 1 = ((i + 1 : Nat) : Int) + 2 := by omega
   rw [e2]
   rw [List.take_length]
   (refine N_round ?i1 ?i2 ?i3; (case i1 => exact ⟨(i + 1, acc ++ B), by dsimp only; omega, by dsimp only; rw [hnext, he, List.append_assoc]⟩); (case i2 => (dsimp only; omega)); (case i3 => refine St.le_of ⟨?_, ?_⟩ <;> (repeat' (first | exact trivial | exact rfl | refine ⟨?_, ?_⟩)) <;> first | exact rfl | (simp; done) | skip))
 · have hi2 : i = t.length := by
     have h3 : ¬ (i : Int) + 2 < ((a :: b :: t).length : Int) := by simpa using hc
     rw [hlen] at h3
     omega
   subst hi2
   rw [List.take_length] at he
   subst he
   generalize A ++ arcsL t = X at *
   repeat (refine nst ?_)
   refine N_freeze 80 [(2, B8 X)] rfl hb ⟨⟨rfl, rfl, rfl, by simp, by simp⟩, rfl⟩ ?_
   exact rt1 []
end Go.Proofs.YthoaneleeabadaaGreat

namespace Go.Proofs.YthoaneleeabadaaGreat
set_option linter.unusedSimpArgs false
set_option linter.unusedVariables false
open Go.Sx
set_option maxRecDepth 10000
def conP (o : List Int) : List Int × Int := if rightO o then (arcsL (numsL o), 0) else ([], 1)
def whoP (o : List Int) : List Int × Int := if rightO o then (wrapL (ofT 6) (arcsL (numsL o)), 0) else ([], 1)
theorem conO_len {o : List Int} (hr : rightO o = true) : (arcsL (numsL o)).length ≤ 186 := by
 obtain ⟨a, b, t, rfl, _, _, _, _, ht, _⟩ := right_nums hr
 have := arcsL_len (numsL (a :: b :: t))
 simp [numsL] at *
 omega
theorem conP_ok (o : List Int) (hl : o.length ≤ 1000000) : Ct Tryz.prog 108 [I64 o] [] (.tup [B8 (conP o).1, lv (.int .i64 (conP o).2)]) [] [] := by
 have h := contO_ok o hl
 unfold contO at h
 unfold conP
 split at h
 · rename_i hr; rw [if_pos hr]; exact h
 · rename_i hr; rw [if_neg hr]; exact h
theorem owrite_ok (o : List Int) (hl : o.length ≤ 1000000) : Ct Tryz.prog 59 [I64 o] [] (.tup [B8 (whoP o).1, lv (.int .i64 (whoP o).2)]) [] [] := by
 have hc := conP_ok o hl
 by_cases hr : rightO o = true
 · have e1 : conP o = (arcsL (numsL o), 0) := if_pos hr
   have e2 : whoP o = (wrapL (ofT 6) (arcsL (numsL o)), 0) := if_pos hr
   have hlen := conO_len hr
   rw [e1] at hc
   rw [e2]
   generalize arcsL (numsL o) = X at *
   have hwr := wrap_ok (ofT 6) [X] (by decide) (by simp) (by simp; omega)
   rw [show [X].flatten = X by simp] at hwr
   have hof := headof_ok 6
   generalize ofT 6 = t at *
   generalize wrapL t X = Y at *
   refine Ct_intro Tryz.func59 rfl rfl rfl rfl rfl (fun E hn hb => ?_)
   repeat (refine nst ?_)
   refine s_call0 (hc) rfl rfl rfl (by rw [hn]; rfl) rfl rfl (by exact vcs) rfl rfl rfl ?_
   repeat (refine nst ?_)
   refine W_cond rfl (by simp) (fun h1 => ?_) (fun h1 => ?_)
   · simp at h1
   repeat (refine nst ?_)
   refine s_call0 (hof) rfl rfl rfl (by rw [hn]; rfl) rfl rfl (by exact vcs) rfl rfl rfl ?_
   repeat (refine nst ?_)
   refine WL_q (opq_of (opy_lit (d := (.recs 1 [[.ints .u8 X]])) rfl (elt_mk Tryz.underlying76 rfl rfl) zok23 rfl (by exact vcs) rfl ⟨by decide, by decide, rfl, rfl⟩) rfl) (by rw [hn]; rfl) ?_
   refine s_call0 (hwr) rfl rfl rfl (by rw [hn]; rfl) rfl rfl (by exact vcs) rfl rfl rfl ?_
   repeat (refine nst ?_)
   exact rt1 []
 · have e1 : conP o = ([], 1) := if_neg hr
   have e2 : whoP o = ([], 1) := if_neg hr
   rw [e1] at hc
   rw [e2]
   refine Ct_intro Tryz.func59 rfl rfl rfl rfl rfl (fun E hn hb => ?_)
   repeat (refine nst ?_)
   refine s_call0 (hc) rfl rfl rfl (by rw [hn]; rfl) rfl rfl (by exact vcs) rfl rfl rfl ?_
   repeat (refine nst ?_)
   refine W_cond rfl (by simp) (fun h1 => ?_) (fun h1 => ?_)
   · repeat (refine nst ?_)
     refine N_retU [] rfl (by simp) (r' := .tup [B8 [], lv (.int .i64 1)]) ⟨.inr ⟨rfl, .inl ⟨_, rfl⟩⟩, .inl rfl, trivial⟩ ⟨rfl, trivial, trivial, rfl⟩ hb rfl trivial
   · simp at h1
end Go.Proofs.YthoaneleeabadaaGreat

namespace Go.Proofs.YthoaneleeabadaaGreat
set_option linter.unusedSimpArgs false
set_option linter.unusedVariables false
open Go.Sx
set_option maxRecDepth 10000
theorem part_eq : ∀ {a b : List Int}, a.length = b.length → (partL a b = a.length ↔ a = b)
 | [], [], _ => by simp [partL]
 | [], _ :: _, h => by simp at h
 | _ :: _, [], h => by simp at h
 | x :: a, y :: b, h => by
   have ih := part_eq (a := a) (b := b) (by simpa using h)
   unfold partL
   by_cases e : x = y
   · subst e
     rw [if_pos rfl]
     simp [ih]
   · rw [if_neg e]
     simp [e]
theorem equal_ok (a b : List Int) (ha : a.length ≤ 1000000) (hb' : b.length ≤ 1000000) : Ct Tryz.prog 112 [B8 a, B8 b] [] (lv (.bool (decide (a = b)))) [] [] := by
 have hp := parted_ok a b ha hb'
 by_cases hl : a.length = b.length
 · have he := part_eq hl
   refine Ct_intro Tryz.func112 rfl rfl rfl rfl rfl (fun E hn hb => ?_)
   repeat refine nx ?_
   refine rt2 [] (congrArg (fun x => lv (.bool x)) ?_) trivial
   by_cases e : a = b
   · have h2 := he.2 e
     subst e
     simp [h2]
   · have h2 : ¬ partL a b = a.length := fun h => e (he.1 h)
     simp [e, hl]
     rw [hl] at h2
     omega
 · have hne : a ≠ b := fun e => hl (by rw [e])
   rw [decide_eq_false hne]
   refine Ct_intro Tryz.func112 rfl rfl rfl rfl rfl (fun E hn hb => ?_)
   repeat refine nx ?_
   refine rt2 [] (congrArg (fun x => lv (.bool x)) ?_) trivial
   have : ¬ ((a.length : Int) = b.length) := by omega
   simp
   intro h
   exact absurd h this
def wrG (o m : List Int) : List Int × Int := if rightG o m = true then (wrapL (ofT 16) (wrapL (ofT 6) (arcsL (numsL o)) ++ m), 0) else ([], 1)
theorem rightG_o {o m : List Int} (h : rightG o m = true) : rightO o = true := by unfold rightG at h; simp at h; exact h.1
theorem whole_len {o : List Int} (hr : rightO o = true) : (wrapL (ofT 6) (arcsL (numsL o))).length ≤ 206 := by
 have h1 := conO_len hr
 have h2 := wrap_len (ofT 6) (arcsL (numsL o))
 omega
theorem wralg_ok (o m : List Int) (ho : o.length ≤ 1000000) (hm : m.length ≤ 100000) (hw : WfB m) : Ct Tryz.prog 11 [algA o m] [] (.tup [B8 (wrG o m).1, lv (.int .i64 (wrG o m).2)]) [] [] := by
 have hra := rightalg_ok o m ho hm hw
 unfold wrG
 cases hg : rightG o m with
 | false =>
   rw [hg] at hra
   rw [if_neg (by simp)]
   refine Ct_intro Tryz.func11 rfl rfl rfl rfl rfl (fun E hn hb => ?_)
   repeat refine nx ?_
   exact rtU []
 | true =>
   rw [hg] at hra
   rw [if_pos rfl]
   have hro := rightG_o hg
   have how := owrite_ok o ho
   unfold whoP at how
   rw [if_pos hro] at how
   have hwl := whole_len hro
   have hsq := sequence_ok [wrapL (ofT 6) (arcsL (numsL o)), m] (by simp) (by simp; omega)
   rw [show [wrapL (ofT 6) (arcsL (numsL o)), m].flatten = wrapL (ofT 6) (arcsL (numsL o)) ++ m by simp] at hsq
   generalize wrapL (ofT 6) (arcsL (numsL o)) = W at *
   refine Ct_intro Tryz.func11 rfl rfl rfl rfl rfl (fun E hn hb => ?_)
   repeat refine nx ?_
   exact rt1 []
theorem samealg_ok (o m o' m' : List Int) (ho : o.length ≤ 1000000) (hm : m.length ≤ 100000) (hw : WfB m) (ho' : o'.length ≤ 1000000) (hm' : m'.length ≤ 100000) (hw' : WfB m') (hr : rightG o m = true) (hr' : rightG o' m' = true) :
   Ct Tryz.prog 66 [algA o m, algA o' m'] [] (lv (.bool (decide ((wrG o m).1 = (wrG o' m').1)))) [] [] := by
 have h1 := wralg_ok o m ho hm hw
 have h2 := wralg_ok o' m' ho' hm' hw'
 have w1 := whole_len (rightG_o hr)
 have w2 := whole_len (rightG_o hr')
 unfold wrG at *
 rw [if_pos hr] at *
 rw [if_pos hr'] at *
 have l1 := wrap_len (ofT 16) (wrapL (ofT 6) (arcsL (numsL o)) ++ m)
 have l2 := wrap_len (ofT 16) (wrapL (ofT 6) (arcsL (numsL o')) ++ m')
 rw [List.length_append] at l1 l2
 dsimp only at *
 generalize wrapL (ofT 16) (wrapL (ofT 6) (arcsL (numsL o)) ++ m) = X at *
 generalize wrapL (ofT 16) (wrapL (ofT 6) (arcsL (numsL o')) ++ m') = Y at *
 have heq := equal_ok X Y (by omega) (by omega)
 refine Ct_intro Tryz.func66 rfl rfl rfl rfl rfl (fun E hn hb => ?_)
 repeat refine nx ?_
 refine rt2 [] (congrArg (fun x => lv (.bool x)) ?_) trivial
 rfl
theorem wrnull_ok : Ct Tryz.prog 72 [] [] (B8 [5, 0]) [] [] := by
 refine Ct_intro Tryz.func72 rfl rfl rfl rfl rfl (fun E hn hb => ?_)
 repeat refine nx ?_
 exact rt1 []
theorem hmac_ok : Ct Tryz.prog 20 [] [] (algA [1, 2, 840, 113549, 2, 9] [5, 0]) [] [] := by
 have h := wrnull_ok
 refine Ct_intro Tryz.func20 rfl rfl rfl rfl rfl (fun E hn hb => ?_)
 repeat refine nx ?_
 exact rt1 []

set_option maxRecDepth 10000
theorem ex_r2 : rightG [1, 2, 840, 113549, 2, 9] [5, 0] = true := by decide +kernel
theorem wf18 {l : List Int} (h : (l.all fun x => decide (0 ≤ x) && decide (x < 256)) = true) : WfB l := fun x hx => by
 have := List.all_eq_true.1 h x hx
 simpa using this

set_option maxRecDepth 10000
theorem ofalg_ok (o m : List Int) : Ct Tryz.prog 19 [algA o m] [] (algA o m) [] [] := by
 refine Ct_intro Tryz.func19 rfl rfl rfl rfl rfl (fun E hn hb => ?_)
 repeat refine nx ?_
 exact rt1 []
theorem likealg_ok (o m : List Int) (ho : o.length ≤ 1000000) (hm : m.length ≤ 1000000) : Ct Tryz.prog 18 [algA o m, algA o m] [] (lv (.bool true)) [] [] := by
 have h1 := refSame_ok o o ho ho
 rw [decide_eq_true rfl] at h1
 have h2 := same_ok m m hm hm
 rw [decide_eq_true rfl] at h2
 refine Ct_intro Tryz.func18 rfl rfl rfl rfl rfl (fun E hn hb => ?_)
 repeat refine nx ?_
 refine rt2 [] (congrArg (fun x => lv (.bool x)) ?_) trivial; (simp [eqCs, Cell.kill, Cell.kill1])
theorem algR_o (l : List Int) (p : Nat) (hw : WfB l) : (algR l p).1.length ≤ 32 := by
 have h := algR_right l p hw
 by_cases he : (algR l p).2.2.1 = 0
 · exact rightO_len (rightG_o (h he))
 · have : (algR l p).1 = [] := by
     unfold algR at he ⊢
     dsimp only at he ⊢
     split
     · rename_i h1
       rw [if_pos h1] at he
       split
       · rename_i h2; rw [if_pos h2] at he; exact absurd rfl he
       · rfl
     · rfl
   rw [this]; simp
end Go.Proofs.YthoaneleeabadaaGreat

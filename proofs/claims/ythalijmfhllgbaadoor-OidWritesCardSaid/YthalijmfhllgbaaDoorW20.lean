/-
  Chapter 03: texts as numbers, the program's way. The conditions: rows of at most a hundred thousand bytes.
-/
import Derived.Test.YthalijmfhllgbaaDoorO9
import Derived.Test.YthalijmfhllgbaaDoorC17
namespace Go.Proofs.YthalijmfhllgbaaDoor
set_option linter.unusedSimpArgs false
set_option linter.unusedVariables false
open Go.Sx

set_option maxRecDepth 10000

theorem refRight_ok (o : List Int) (hl : o.length ≤ 1000000) : Ct Tryd.prog 17 [I64 o] [] (lv (.bool (rightO o))) [] [] := by
  obtain ⟨R, hR⟩ : ∃ R, rightO o = R := ⟨_, rfl⟩
  rw [hR]
  refine Ct_intro Tryd.func17 rfl rfl rfl rfl rfl (fun E hn hb => ?_)
  repeat (first | refine stp ?_ | refine N_block_pass rfl ?_ | refine sp1 ?_ | refine sg1 ?_ | refine WL_nil ?_)
  refine W_cond rfl (by simp) (fun hc => ?_) (fun hc => ?_)
  · have : R = false := by
      rw [← hR]
      simp at hc
      match o, hc with
      | [], _ => rfl
      | [_], _ => rfl
      | a :: b :: t, hc => simp at hc; rw [rightO_cons, if_pos (by omega)]
    subst this
    repeat (first | refine stp ?_ | refine N_block_pass rfl ?_ | refine sp1 ?_ | refine sg1 ?_ | refine WL_nil ?_)
    exact rt1 []
  · have hlen : 2 ≤ o.length ∧ o.length ≤ 32 := by simp at hc; omega
    repeat (first | refine stp ?_ | refine N_block_pass rfl ?_ | refine sp1 ?_ | refine sg1 ?_ | refine WL_nil ?_)
    refine W_weaken (St.le_of (l := [(0, I64 o), (3, lv (.int .i64 ((0 : Nat) : Int)))]) (h := []) (by refine ⟨?_, ?_⟩ <;> (repeat' (first | exact trivial | exact rfl | refine ⟨?_, ?_⟩)) <;> first | exact rfl | (simp; done) | skip)) ?_
    refine W_loop (ι := {i : Nat // i ≤ o.length ∧ (o.take i).all inR = true}) (fun i => St.of [(0, I64 o), (3, lv (.int .i64 (i.1 : Int)))] []) (fun i => o.length - i.1) (fun i => ?_) ⟨0, by omega, by simp⟩
    obtain ⟨i, hi, ha⟩ := i
    dsimp only
    repeat (first | refine stp ?_ | refine N_block_pass rfl ?_ | refine sp1 ?_ | refine sg1 ?_ | refine WL_nil ?_)
    refine W_cond rfl (by simp) (fun hc => ?_) (fun hc => ?_)
    · have hi2 : i < o.length := by simpa using hc
      repeat (first | refine stp ?_ | refine N_block_pass rfl ?_ | refine sp1 ?_ | refine sg1 ?_ | refine WL_nil ?_)
      refine W_cond rfl (by simp) (fun h2 => ?_) (fun h2 => ?_)
      · have : R = false := by
          rw [← hR]
          have hg := all_get hi2 (by simp [Bool.cond_eq_ite] at h2; simp only [inR, Bool.not_eq_false', Bool.or_eq_true, decide_eq_true_eq]; rw [List.getD_eq_getElem?_getD]; omega)
          match o, hlen, hg with
          | a :: b :: t, hlen, hg => rw [rightO_cons, hg]; simp
        subst this
        repeat (first | refine stp ?_ | refine N_block_pass rfl ?_ | refine sp1 ?_ | refine sg1 ?_ | refine WL_nil ?_)
        exact rt1 []
      · repeat (first | refine stp ?_ | refine N_block_pass rfl ?_ | refine sp1 ?_ | refine sg1 ?_ | refine WL_nil ?_)
        (refine N_round ?i1 ?i2 ?i3; (case i1 => exact ⟨i + 1, by omega, all_take hi2 ha (by simp [Bool.cond_eq_ite] at h2; simp only [inR, Bool.not_eq_true', Bool.or_eq_false_iff, decide_eq_false_iff_not]; rw [List.getD_eq_getElem?_getD]; omega)⟩); (case i2 => (dsimp only; omega)); (case i3 => refine St.le_of ⟨?_, ?_⟩ <;> (repeat' (first | exact trivial | exact rfl | refine ⟨?_, ?_⟩)) <;> first | exact rfl | (simp; done) | skip))
    · have : i = o.length := by simp at hc; omega
      subst this
      rw [List.take_length] at ha
      clear hi
      match o, hlen, ha, hR with
      | a :: b :: t, hlen, ha, hR =>
      have h30 : ¬ 30 < t.length := by simp at hlen; omega
      have ha0 : 0 ≤ a := by
        have := List.all_eq_true.1 ha a (by simp)
        simp [inR] at this
        exact this.1
      rw [rightO_cons, if_neg h30, ha, if_neg (by simp)] at hR
      repeat (first | refine stp ?_ | refine N_block_pass rfl ?_ | refine sp1 ?_ | refine sg1 ?_ | refine WL_nil ?_)
      refine rt2 [] ?_ ?_
      · refine congrArg (fun x => lv (.bool x)) (?_ : (bif bif decide (a < 2) then decide (b < 40) else false then true else bif a == 2 then decide (b ≤ 2147483567) else false) = R)
        rw [← hR]
        by_cases h0 : a = 0 ∨ a = 1
        · have h1 : a < 2 := by omega
          have h2 : (a == 2) = false := by simp; omega
          rw [if_pos h0, h2]
          simp [h1]
        · have h1 : ¬ a < 2 := by omega
          rw [if_neg h0]
          by_cases h2 : a = 2
          · simp [h2]
          · simp [h1, h2]
      · trivial
theorem refSame_ok (a b : List Int) (ha : a.length ≤ 1000000) (hb' : b.length ≤ 1000000) : Ct Tryd.prog 18 [I64 a, I64 b] [] (lv (.bool (decide (a = b)))) [] [] := by
  refine Ct_intro Tryd.func18 rfl rfl rfl rfl rfl (fun E hn hb => ?_)
  repeat (first | refine stp ?_ | refine N_block_pass rfl ?_ | refine sp1 ?_ | refine sg1 ?_ | refine WL_nil ?_)
  refine s_call0 (refCmp_ok a b ha hb') rfl rfl rfl (by rw [hn]; rfl) rfl rfl (by first | trivial | (simp; done) | (simp; omega) | (simp at *; done) | (simp at *; omega)) rfl rfl rfl ?_
  repeat (first | refine stp ?_ | refine N_block_pass rfl ?_ | refine sp1 ?_ | refine sg1 ?_ | refine WL_nil ?_)
  refine rt2 [] ?_ ?_
  · refine congrArg (fun x => lv (.bool x)) (?_ : (cmpL a b == 0) = decide (a = b))
    rw [Bool.eq_iff_iff]
    simp [cmpL_eq]
  · trivial
theorem arcL_small {n : Nat} (h : n < 128) : arcL n = [(n : Int)] := by
  have h1 : n / 128 = 0 := Nat.div_eq_of_lt h
  have h2 : n % 128 = n := Nat.mod_eq_of_lt h
  rw [arcL, h1, h2]
  rfl
theorem arcT_more : ∀ (k n : Nat), n < 128 ^ k → arcT (k + 1) n = arcT k n
  | 0, n, h => by
    have : n = 0 := by simpa using h
    subst this
    rfl
  | k + 1, n, h => by
    have h1 : n / 128 < 128 ^ k := by
      rw [Nat.pow_succ] at h
      exact Nat.div_lt_of_lt_mul (by rw [Nat.mul_comm]; exact h)
    have := arcT_more k (n / 128) h1
    unfold arcT
    split
    · rfl
    · rw [this]
theorem arcL_big {n : Nat} (h : ¬ n < 128) (h0 : n < 4294967296) : ∃ L, arcL (n / 128) = L ++ [((n / 128 % 128 : Nat) : Int)] ∧ arcL n = (L ++ [((n / 128 % 128 : Nat) : Int) + 128]) ++ [((n % 128 : Nat) : Int)] := by
  refine ⟨(arcT 5 (n / 128 / 128)).reverse, by simp [arcL], ?_⟩
  have h1 : n / 128 ≠ 0 := by omega
  have h2 := arcT_more 4 (n / 128 / 128) (by omega)
  rw [arcL]
  conv => lhs; unfold arcT
  rw [if_neg h1, ← h2]
  simp
set_option maxHeartbeats 1000000 in
theorem refDigits_ok : ∀ (k n : Nat), n < 128 ^ (k + 1) → n < 4294967296 → Ct Tryd.prog 41 [lv (.int .i64 (n : Int))] [] (.c (.own 0 1 0 (arcL n).length)) [] [.row (.ints .u8 (arcL n))]
  | k, n, h, h0 => by
    by_cases h1 : n < 128
    · rw [arcL_small h1]
      refine Ct_intro Tryd.func41 rfl rfl rfl rfl rfl (fun E hn hb => ?_)
      repeat (first | refine stp ?_ | refine N_block_pass rfl ?_ | refine sp1 ?_ | refine sg1 ?_ | refine WL_nil ?_)
      refine W_cond rfl (by simp) (fun hc => ?_) (fun hc => ?_)
      · repeat (first | refine stp ?_ | refine N_block_pass rfl ?_ | refine sp1 ?_ | refine sg1 ?_ | refine WL_nil ?_)
        refine s_litI rfl rfl rfl (by rw [hn]; rfl) (elt_mk Tryd.underlying28 rfl rfl) (zok5) (by first | trivial | (simp; done) | (simp; omega) | (simp at *; done) | (simp at *; omega)) ⟨by decide, rfl⟩ ?_
        repeat (first | refine stp ?_ | refine N_block_pass rfl ?_ | refine sp1 ?_ | refine sg1 ?_ | refine WL_nil ?_)
        exact rt1 [72]
      · simp at hc; omega
    · obtain ⟨k, rfl⟩ : ∃ k', k = k' + 1 := by
        cases k with
        | zero => simp at h; omega
        | succ k => exact ⟨k, rfl⟩
      have ih := refDigits_ok k (n / 128) (by
        rw [Nat.pow_succ] at h
        exact Nat.div_lt_of_lt_mul (by rw [Nat.mul_comm]; exact h)) (by omega)
      obtain ⟨L, e1, e2⟩ := arcL_big h1 h0
      have hLl : L.length ≤ 10 := by
        have := arcL_len (n / 128)
        rw [e1] at this
        simp at this
        omega
      have hx : n / 128 % 128 < 128 := Nat.mod_lt _ (by decide)
      rw [e1] at ih
      rw [e2]
      generalize n / 128 % 128 = x at *
      have el : (L ++ [((x : Nat) : Int)]).length = L.length + 1 := by simp
      rw [el] at ih
      have hq : (n : Int) / 128 = ((n / 128 : Nat) : Int) := by omega
      have hm : (n : Int) % 128 = ((n % 128 : Nat) : Int) := by omega
      refine Ct_intro Tryd.func41 rfl rfl rfl rfl rfl (fun E hn hb => ?_)
      repeat (first | refine stp ?_ | refine N_block_pass rfl ?_ | refine sp1 ?_ | refine sg1 ?_ | refine WL_nil ?_)
      refine W_cond rfl (by simp) (fun hc => ?_) (fun hc => ?_)
      · simp at hc; omega
      · repeat (first | refine stp ?_ | refine N_block_pass rfl ?_ | refine sp1 ?_ | refine sg1 ?_ | refine WL_nil ?_)
        rw [hq]
        have ei : 0 + ((((L.length + 1 : Nat) : Int)) - 1).toNat = L.length := by omega
        have eg : (L ++ [((x : Nat) : Int)]).getD L.length 0 = x := by simp
        have es : (L ++ [((x : Nat) : Int)]).set L.length ((x : Int) + 128) = L ++ [(x : Int) + 128] := by simp
        refine s_call1 ih rfl rfl rfl (by rw [hn]; rfl) rfl rfl (by first | trivial | (simp; done) | (simp; omega) | (simp at *; done) | (simp at *; omega)) rfl rfl rfl ?_
        repeat (first | refine stp ?_ | refine N_block_pass rfl ?_ | refine sp1 ?_ | refine sg1 ?_ | refine WL_nil ?_)
        rw [ei, eg]
        repeat (first | refine stp ?_ | refine N_block_pass rfl ?_ | refine sp1 ?_ | refine sg1 ?_ | refine WL_nil ?_)
        refine s_storeI rfl rfl rfl rfl rfl (by first | trivial | (simp; done) | (simp; omega) | (simp at *; done) | (simp at *; omega)) rfl (by rw [cellsOf5]) (by first | (simp; done) | (simp; omega) | (simp at *; omega)) ?_
        rw [es]
        repeat (first | refine stp ?_ | refine N_block_pass rfl ?_ | refine sp1 ?_ | refine sg1 ?_ | refine WL_nil ?_)
        rw [hm]
        refine s_litI rfl rfl rfl (by rw [hn]; rfl) (elt_mk Tryd.underlying28 rfl rfl) (zok5) (by first | trivial | (simp; done) | (simp; omega) | (simp at *; done) | (simp at *; omega)) ⟨by decide, rfl⟩ ?_
        repeat (first | refine stp ?_ | refine N_block_pass rfl ?_ | refine sp1 ?_ | refine sg1 ?_ | refine WL_nil ?_)
        have ef : (L ++ [(x : Int) + 128] ++ [((n % 128 : Nat) : Int)]).length = L.length + 1 + 1 := by simp
        have eL : L.length + 1 = (L ++ [(x : Int) + 128]).length := by simp
        rw [eL]
        refine s_appI rfl rfl rfl rfl rfl rfl (by rw [hn]; rfl) (elt_mk Tryd.underlying28 rfl rfl) rfl rfl rfl rfl (by first | trivial | (simp; done) | (simp; omega) | (simp at *; done) | (simp at *; omega)) (by first | rfl | (simp; done) | (simp; omega)) ⟨by first | (simp; done) | (simp; omega) | (simp at *; omega), by decide⟩ ?_
        repeat (first | refine stp ?_ | refine N_block_pass rfl ?_ | refine sp1 ?_ | refine sg1 ?_ | refine WL_nil ?_)
        exact rt1 [75]
theorem refCon_ok (o : List Int) (hr : rightO o = true) : Ct Tryd.prog 20 [I64 o] [] (B8 (arcsL (numsL o))) [] [] := by
  obtain ⟨a, b, t, rfl, ha0, ha2, hb0, hb1, ht, hx, _⟩ := right_nums hr
  have h1 := refDigits_ok 4 (40 * a + b).toNat (by omega) (by omega)
  rw [Int.toNat_of_nonneg (by omega)] at h1
  show Ct Tryd.prog 20 [I64 (a :: b :: t)] [] (B8 (arcsL ((40 * a + b) :: t))) [] []
  have e0 : arcsL ((40 * a + b) :: t) = arcL (40 * a + b).toNat ++ arcsL t := rfl
  rw [e0]
  generalize hA : arcL (40 * a + b).toNat = A at *
  have hAl : A.length ≤ 6 := by rw [← hA]; exact arcL_len _
  refine Ct_intro Tryd.func20 rfl rfl rfl rfl rfl (fun E hn hb => ?_)
  repeat (first | refine stp ?_ | refine N_block_pass rfl ?_ | refine sp1 ?_ | refine sg1 ?_ | refine WL_nil ?_)
  refine W_cond rfl (by simp) (fun hc => ?_) (fun hc => ?_)
  · simp at hc; omega
  repeat (first | refine stp ?_ | refine N_block_pass rfl ?_ | refine sp1 ?_ | refine sg1 ?_ | refine WL_nil ?_)
  refine W_drawW 8 (by kernel_rfl) (by kernel_rfl) (by kernel_rfl) (by rw [hn]; rfl) rfl rfl ?_
  repeat (first | refine dp1 ?_ | refine dg1 ?_ | refine DrawW_nil ?_)
  repeat (first | refine stp ?_ | refine N_block_pass rfl ?_ | refine sp1 ?_ | refine sg1 ?_ | refine WL_nil ?_)
  refine s_call1 h1 rfl rfl rfl (by rw [hn]; rfl) rfl rfl (by first | trivial | (simp; done) | (simp; omega) | (simp at *; done) | (simp at *; omega)) rfl rfl rfl ?_
  repeat (first | refine stp ?_ | refine N_block_pass rfl ?_ | refine sp1 ?_ | refine sg1 ?_ | refine WL_nil ?_)
  have hlen : (a :: b :: t).length = t.length + 2 := rfl
  rw [hlen]
  refine W_weaken (St.le_of (l := [(0, I64 (a :: b :: t)), (3, .c (.own 80 1 0 A.length)), (4, lv (.int .i64 (((0 : Nat) : Int) + 2)))]) (h := [(80, .row (.ints .u8 A))]) (by refine ⟨?_, ?_⟩ <;> (repeat' (first | exact trivial | exact rfl | refine ⟨?_, ?_⟩)) <;> first | exact rfl | (simp; done) | skip)) ?_
  refine W_loop (ι := {s : Nat × List Int // s.1 ≤ t.length ∧ s.2 = A ++ arcsL (t.take s.1)}) (fun s => St.of [(0, I64 (a :: b :: t)), (3, .c (.own 80 1 0 s.1.2.length)), (4, lv (.int .i64 ((s.1.1 : Int) + 2)))] [(80, .row (.ints .u8 s.1.2))]) (fun s => t.length - s.1.1) (fun s => ?_) ⟨(0, A), by dsimp only; omega, by simp [arcsL]⟩
  obtain ⟨⟨i, acc⟩, hi, he⟩ := s
  dsimp only at hi he ⊢
  repeat (first | refine stp ?_ | refine N_block_pass rfl ?_ | refine sp1 ?_ | refine sg1 ?_ | refine WL_nil ?_)
  refine W_cond rfl (by simp) (fun hc => ?_) (fun hc => ?_)
  · have hi2 : i < t.length := by
      have h3 : (i : Int) + 2 < ((a :: b :: t).length : Int) := by simpa using hc
      rw [hlen] at h3
      omega
    have hal : acc.length ≤ 1000 := by
      have := arcsL_len (t.take i)
      rw [he]
      simp at this ⊢
      omega
    have hxi : t.getD i 0 ∈ t := by rw [List.getD_eq_getElem?_getD, List.getElem?_eq_getElem hi2]; exact List.getElem_mem hi2
    have hxb := hx _ hxi
    have hnext := arcsL_take hi2
    have hd := refDigits_ok 4 (t.getD i 0).toNat (by omega) (by omega)
    rw [Int.toNat_of_nonneg hxb.1] at hd
    have hl2 := arcL_len (t.getD i 0).toNat
    have hg : (a :: b :: t).getD (((i : Int) + 2).toNat) 0 = t.getD i 0 := by
      have : ((i : Int) + 2).toNat = i + 2 := by omega
      rw [this]; rfl
    generalize hB : arcL (t.getD i 0).toNat = B at *
    generalize hX : t.getD i 0 = X at *
    repeat (first | refine stp ?_ | refine N_block_pass rfl ?_ | refine sp1 ?_ | refine sg1 ?_ | refine WL_nil ?_)
    rw [hg]
    refine s_call1 hd rfl rfl rfl (by rw [hn]; rfl) rfl rfl (by first | trivial | (simp; done) | (simp; omega) | (simp at *; done) | (simp at *; omega)) rfl rfl rfl ?_
    repeat (first | refine stp ?_ | refine N_block_pass rfl ?_ | refine sp1 ?_ | refine sg1 ?_ | refine WL_nil ?_)
    refine s_appI rfl rfl rfl rfl rfl rfl (by rw [hn]; rfl) (elt_mk Tryd.underlying28 rfl rfl) rfl rfl rfl rfl (by first | trivial | (simp; done) | (simp; omega) | (simp at *; done) | (simp at *; omega)) (by first | rfl | (simp; done) | (simp; omega)) ⟨by first | (simp; done) | (simp; omega) | (simp at *; omega), by decide⟩ ?_
    repeat (first | refine stp ?_ | refine N_block_pass rfl ?_ | refine sp1 ?_ | refine sg1 ?_ | refine WL_nil ?_)
    have e2 : (i : Int) + 2 + 1 = ((i + 1 : Nat) : Int) + 2 := by omega
    rw [e2]
    rw [List.take_length]
    (refine N_round ?i1 ?i2 ?i3; (case i1 => exact ⟨(i + 1, acc ++ B), by dsimp only; omega, by dsimp only; rw [hnext, he, List.append_assoc]⟩); (case i2 => (dsimp only; omega)); (case i3 => refine St.le_of ⟨?_, ?_⟩ <;> (repeat' (first | exact trivial | exact rfl | refine ⟨?_, ?_⟩)) <;> first | exact rfl | (simp; done) | skip))
  · have hi2 : i = t.length := by
      have h3 : ¬ (i : Int) + 2 < ((a :: b :: t).length : Int) := by simpa using hc
      rw [hlen] at h3
      omega
    subst hi2
    rw [List.take_length] at he
    subst he
    generalize A ++ arcsL t = X at *
    repeat (first | refine stp ?_ | refine N_block_pass rfl ?_ | refine sp1 ?_ | refine sg1 ?_ | refine WL_nil ?_)
    refine N_freeze 80 [(2, B8 X)] rfl hb ⟨⟨rfl, rfl, rfl, by simp, by simp⟩, rfl⟩ ?_
    exact rt1 []
end Go.Proofs.YthalijmfhllgbaaDoor

namespace Go.Proofs.YthalijmfhllgbaaDoor
set_option linter.unusedSimpArgs false
set_option linter.unusedVariables false
open Go.Sx

set_option maxRecDepth 10000

/-- An oid's contents, its whole; an error's number. -/
def conP (o : List Int) : List Int × Int := if rightO o then (arcsL (numsL o), 0) else ([], 1)
def whoP (o : List Int) : List Int × Int := if rightO o then (wrapL (ofT 6) (arcsL (numsL o)), 0) else ([], 1)
theorem conO_len {o : List Int} (hr : rightO o = true) : (arcsL (numsL o)).length ≤ 186 := by
  obtain ⟨a, b, t, rfl, _, _, _, _, ht, _⟩ := right_nums hr
  have := arcsL_len (numsL (a :: b :: t))
  simp [numsL] at *
  omega
theorem conP_ok (o : List Int) (hl : o.length ≤ 1000000) : Ct Tryd.prog 12 [I64 o] [] (.tup [B8 (conP o).1, lv (.int .i64 (conP o).2)]) [] [] := by
  have h := contO_ok o hl
  unfold contO at h
  unfold conP
  split at h
  · rename_i hr; rw [if_pos hr]; exact h
  · rename_i hr; rw [if_neg hr]; exact h
theorem owrite_ok (o : List Int) (hl : o.length ≤ 1000000) : Ct Tryd.prog 13 [I64 o] [] (.tup [B8 (whoP o).1, lv (.int .i64 (whoP o).2)]) [] [] := by
  have hc := conP_ok o hl
  by_cases hr : rightO o = true
  · have e1 : conP o = (arcsL (numsL o), 0) := if_pos hr
    have e2 : whoP o = (wrapL (ofT 6) (arcsL (numsL o)), 0) := if_pos hr
    have hlen := conO_len hr
    rw [e1] at hc
    rw [e2]
    generalize arcsL (numsL o) = X at *
    have hwr := wrap_ok (ofT 6) [X] (by decide) (by simp) (by simp; omega)
    rw [show [X].flatten = X by simp] at hwr
    have hof := headof_ok 6
    generalize ofT 6 = t at *
    generalize wrapL t X = Y at *
    refine Ct_intro Tryd.func13 rfl rfl rfl rfl rfl (fun E hn hb => ?_)
    repeat (first | refine stp ?_ | refine N_block_pass rfl ?_ | refine sp1 ?_ | refine sg1 ?_ | refine WL_nil ?_)
    refine s_call0 (hc) rfl rfl rfl (by rw [hn]; rfl) rfl rfl (by first | trivial | (simp; done) | (simp; omega) | (simp at *; done) | (simp at *; omega)) rfl rfl rfl ?_
    repeat (first | refine stp ?_ | refine N_block_pass rfl ?_ | refine sp1 ?_ | refine sg1 ?_ | refine WL_nil ?_)
    refine W_cond rfl (by simp) (fun h1 => ?_) (fun h1 => ?_)
    · simp at h1
    repeat (first | refine stp ?_ | refine N_block_pass rfl ?_ | refine sp1 ?_ | refine sg1 ?_ | refine WL_nil ?_)
    refine s_call0 (hof) rfl rfl rfl (by rw [hn]; rfl) rfl rfl (by first | trivial | (simp; done) | (simp; omega) | (simp at *; done) | (simp at *; omega)) rfl rfl rfl ?_
    repeat (first | refine stp ?_ | refine N_block_pass rfl ?_ | refine sp1 ?_ | refine sg1 ?_ | refine WL_nil ?_)
    refine WL_q (opq_of (opy_lit (d := (.recs 1 [[.ints .u8 X]])) rfl (elt_mk Tryd.underlying94 rfl rfl) zok28 rfl (by first | trivial | (simp; done) | (simp; omega) | (simp at *; done) | (simp at *; omega)) rfl ⟨by decide, by decide, rfl, rfl⟩) rfl) (by rw [hn]; rfl) ?_
    refine s_call0 (hwr) rfl rfl rfl (by rw [hn]; rfl) rfl rfl (by first | trivial | (simp; done) | (simp; omega) | (simp at *; done) | (simp at *; omega)) rfl rfl rfl ?_
    repeat (first | refine stp ?_ | refine N_block_pass rfl ?_ | refine sp1 ?_ | refine sg1 ?_ | refine WL_nil ?_)
    exact rt1 []
  · have e1 : conP o = ([], 1) := if_neg hr
    have e2 : whoP o = ([], 1) := if_neg hr
    rw [e1] at hc
    rw [e2]
    refine Ct_intro Tryd.func13 rfl rfl rfl rfl rfl (fun E hn hb => ?_)
    repeat (first | refine stp ?_ | refine N_block_pass rfl ?_ | refine sp1 ?_ | refine sg1 ?_ | refine WL_nil ?_)
    refine s_call0 (hc) rfl rfl rfl (by rw [hn]; rfl) rfl rfl (by first | trivial | (simp; done) | (simp; omega) | (simp at *; done) | (simp at *; omega)) rfl rfl rfl ?_
    repeat (first | refine stp ?_ | refine N_block_pass rfl ?_ | refine sp1 ?_ | refine sg1 ?_ | refine WL_nil ?_)
    refine W_cond rfl (by simp) (fun h1 => ?_) (fun h1 => ?_)
    · repeat (first | refine stp ?_ | refine N_block_pass rfl ?_ | refine sp1 ?_ | refine sg1 ?_ | refine WL_nil ?_)
      refine N_retU [] rfl (by simp) (r' := .tup [B8 [], lv (.int .i64 1)]) ⟨.inr ⟨rfl, .inl ⟨_, rfl⟩⟩, .inl rfl, trivial⟩ ⟨rfl, trivial, trivial, rfl⟩ hb rfl trivial
    · simp at h1
theorem must_ok (o : List Int) (hl : o.length ≤ 1000000) : Ct Tryd.prog 15 [I64 o] [] (B8 (whoP o).1) [] [] := by
  have hc := owrite_ok o hl
  by_cases hr : rightO o = true
  · have e2 : whoP o = (wrapL (ofT 6) (arcsL (numsL o)), 0) := if_pos hr
    rw [e2] at hc ⊢
    generalize wrapL (ofT 6) (arcsL (numsL o)) = Y at *
    refine Ct_intro Tryd.func15 rfl rfl rfl rfl rfl (fun E hn hb => ?_)
    repeat (first | refine stp ?_ | refine N_block_pass rfl ?_ | refine sp1 ?_ | refine sg1 ?_ | refine WL_nil ?_)
    refine s_call0 (hc) rfl rfl rfl (by rw [hn]; rfl) rfl rfl (by first | trivial | (simp; done) | (simp; omega) | (simp at *; done) | (simp at *; omega)) rfl rfl rfl ?_
    repeat (first | refine stp ?_ | refine N_block_pass rfl ?_ | refine sp1 ?_ | refine sg1 ?_ | refine WL_nil ?_)
    refine W_cond rfl (by simp) (fun h1 => ?_) (fun h1 => ?_)
    · simp at h1
    repeat (first | refine stp ?_ | refine N_block_pass rfl ?_ | refine sp1 ?_ | refine sg1 ?_ | refine WL_nil ?_)
    exact rt1 []
  · have e2 : whoP o = ([], 1) := if_neg hr
    rw [e2] at hc ⊢
    refine Ct_intro Tryd.func15 rfl rfl rfl rfl rfl (fun E hn hb => ?_)
    repeat (first | refine stp ?_ | refine N_block_pass rfl ?_ | refine sp1 ?_ | refine sg1 ?_ | refine WL_nil ?_)
    refine s_call0 (hc) rfl rfl rfl (by rw [hn]; rfl) rfl rfl (by first | trivial | (simp; done) | (simp; omega) | (simp at *; done) | (simp at *; omega)) rfl rfl rfl ?_
    repeat (first | refine stp ?_ | refine N_block_pass rfl ?_ | refine sp1 ?_ | refine sg1 ?_ | refine WL_nil ?_)
    refine W_cond rfl (by simp) (fun h1 => ?_) (fun h1 => ?_)
    · repeat (first | refine stp ?_ | refine N_block_pass rfl ?_ | refine sp1 ?_ | refine sg1 ?_ | refine WL_nil ?_)
      refine N_retU [] rfl (by simp) (r' := B8 []) (.inr ⟨rfl, .inl ⟨_, rfl⟩⟩) ⟨rfl, trivial, trivial, rfl⟩ hb rfl trivial
    · simp at h1
theorem refWhole_ok (o : List Int) (hr : rightO o = true) : Ct Tryd.prog 21 [I64 o] [] (B8 (wrapL (ofT 6) (arcsL (numsL o)))) [] [] := by
  have hlen := conO_len hr
  have hc := refCon_ok o hr
  generalize arcsL (numsL o) = X at *
  have hwr := refwrap_ok (ofT 6) X (by decide) (by omega)
  have hof := refoft_ok 6
  generalize ofT 6 = t at *
  generalize wrapL t X = Y at *
  refine Ct_intro Tryd.func21 rfl rfl rfl rfl rfl (fun E hn hb => ?_)
  repeat (first | refine stp ?_ | refine N_block_pass rfl ?_ | refine sp1 ?_ | refine sg1 ?_ | refine WL_nil ?_)
  refine s_call0 (hof) rfl rfl rfl (by rw [hn]; rfl) rfl rfl (by first | trivial | (simp; done) | (simp; omega) | (simp at *; done) | (simp at *; omega)) rfl rfl rfl ?_
  repeat (first | refine stp ?_ | refine N_block_pass rfl ?_ | refine sp1 ?_ | refine sg1 ?_ | refine WL_nil ?_)
  refine s_call0 (hc) rfl rfl rfl (by rw [hn]; rfl) rfl rfl (by first | trivial | (simp; done) | (simp; omega) | (simp at *; done) | (simp at *; omega)) rfl rfl rfl ?_
  repeat (first | refine stp ?_ | refine N_block_pass rfl ?_ | refine sp1 ?_ | refine sg1 ?_ | refine WL_nil ?_)
  refine s_call0 (hwr) rfl rfl rfl (by rw [hn]; rfl) rfl rfl (by first | trivial | (simp; done) | (simp; omega) | (simp at *; done) | (simp at *; omega)) rfl rfl rfl ?_
  repeat (first | refine stp ?_ | refine N_block_pass rfl ?_ | refine sp1 ?_ | refine sg1 ?_ | refine WL_nil ?_)
  exact rt1 []
end Go.Proofs.YthalijmfhllgbaaDoor

namespace Go.Proofs.YthalijmfhllgbaaDoor
set_option linter.unusedSimpArgs false
set_option linter.unusedVariables false
open Go.Sx

set_option maxRecDepth 10000

/-! Values, digits. -/
/-- Digits, the lowest first. -/
def decD (n : Nat) : List Int := if h : n = 0 then [] else ((n % 10 : Nat) : Int) :: decD (n / 10)
termination_by n
decreasing_by omega
theorem decD_zero : decD 0 = [] := by rw [decD]; simp
theorem decD_pos {n : Nat} (h : n ≠ 0) : decD n = ((n % 10 : Nat) : Int) :: decD (n / 10) := by rw [decD]; simp [h]
theorem decL_D : ∀ (k n : Nat), n ≤ k → decL n = (decD n).map (fun x => 48 + x)
  | 0, n, h => by
    have : n = 0 := by omega
    subst this; rw [decL_zero, decD_zero]; rfl
  | k + 1, n, h => by
    by_cases h0 : n = 0
    · subst h0; rw [decL_zero, decD_zero]; rfl
    · rw [decL_pos h0, decD_pos h0, decL_D k (n / 10) (by omega)]; rfl
theorem decD_wf : ∀ (k n : Nat), n ≤ k → ∀ x ∈ decD n, 0 ≤ x ∧ x < 10
  | 0, n, h => by
    have : n = 0 := by omega
    subst this; rw [decD_zero]; intro x hx; cases hx
  | k + 1, n, h => by
    by_cases h0 : n = 0
    · subst h0; rw [decD_zero]; intro x hx; cases hx
    · rw [decD_pos h0]
      intro x hx
      cases hx with
      | head => omega
      | tail _ hx => exact decD_wf k (n / 10) (by omega) x hx
/-- Digits 256 times, and more. -/
def mulC : List Int → Int → List Int × Int
  | [], c => ([], c)
  | x :: l, c => ((256 * x + c) % 10 :: (mulC l ((256 * x + c) / 10)).1, (mulC l ((256 * x + c) / 10)).2)
theorem mul_dec : ∀ (k v c : Nat), v ≤ k → (mulC (decD v) c).1 ++ decD (mulC (decD v) c).2.toNat = decD (256 * v + c)
  | 0, v, c, h => by
    have : v = 0 := by omega
    subst this; rw [decD_zero]; simp [mulC]
  | k + 1, v, c, h => by
    by_cases h0 : v = 0
    · subst h0; rw [decD_zero]; simp [mulC]
    · have ih := mul_dec k (v / 10) ((256 * (v % 10) + c) / 10) (by omega)
      rw [decD_pos h0, decD_pos (show 256 * v + c ≠ 0 by omega)]
      simp only [mulC, List.cons_append]
      have e1 : (256 * ((v % 10 : Nat) : Int) + (c : Int)) / 10 = (((256 * (v % 10) + c) / 10 : Nat) : Int) := by omega
      have e2 : (256 * ((v % 10 : Nat) : Int) + (c : Int)) % 10 = (((256 * v + c) % 10 : Nat) : Int) := by omega
      have e3 : (256 * v + c) / 10 = 256 * (v / 10) + (256 * (v % 10) + c) / 10 := by omega
      rw [e1, e2, ih, e3]

/-! Strings as rows of bytes. -/
theorem str_of (t : ByteArray) : ∃ l : List Int, t = strOfNums l ∧ WfB l ∧ l.length = t.size := by
  refine ⟨bs t, ?_, ?_, ?_⟩
  · apply ByteArray.ext
    apply Array.ext'
    rw [strOfNums_data]
    simp only [bs, List.map_map]
    conv => lhs; rw [← List.map_id t.data.toList]
    apply List.map_congr_left
    intro b _
    show b = UInt8.ofNat ((b.toNat : Int)).toNat
    rw [Int.toNat_natCast, UInt8.ofNat_toNat]
  · intro x hx
    obtain ⟨b, _, rfl⟩ := List.mem_map.1 hx
    have := b.toNat_lt
    omega
  · show (t.data.toList.map _).length = t.data.size
    rw [List.length_map, Array.length_toList]
theorem bs_str {l : List Int} (h : WfB l) : bs (strOfNums l) = l := by
  simp only [bs, strOfNums_data, List.map_map]
  conv => rhs; rw [← List.map_id l]
  apply List.map_congr_left
  intro x hx
  have := h x hx
  simp only [Function.comp]
  rw [UInt8.toNat_ofNat']
  simp only [id]
  omega
theorem app_str (a b : List Int) : strOfNums a ++ strOfNums b = strOfNums (a ++ b) := by
  apply ByteArray.ext
  apply Array.ext'
  rw [strOfNums_data, ByteArray.data_append]
  simp [strOfNums_data]

end Go.Proofs.YthalijmfhllgbaaDoor

namespace Go.Proofs.YthalijmfhllgbaaDoor
set_option linter.unusedSimpArgs false
set_option linter.unusedVariables false
open Go.Sx

set_option maxRecDepth 10000

@[simp] theorem size_str (l : List Int) : (strOfNums l).size = l.length := strOfNums_size l
end Go.Proofs.YthalijmfhllgbaaDoor

/-
  Hexadecimal text read. The conditions: texts of digits.
-/
import Derived.Test.YthoaneleeabadaaO6
import Derived.Test.YthoaneleeabadaaO3
import Derived.Test.YthoaneleeabadaaC3
import Derived.Test.YthoaneleeabadaaW9
import Derived.Test.YthoaneleeabadaaD8
import Derived.Test.YthoaneleeabadaaA13
import Derived.Test.YthoaneleeabadaaM1
import Derived.Test.YthoaneleeabadaaA14
namespace Go.Proofs.Ythoaneleeabadaa
set_option linter.unusedSimpArgs false
set_option linter.unusedVariables false
open Go.Sx

set_option maxRecDepth 10000

def arcsL (l : List Int) : List Int := l.flatMap fun x => arcL x.toNat
/-- The numbers that are written. -/
def numsL : List Int → List Int
  | a :: b :: t => (40 * a + b) :: t
  | _ => []
def contO (o : List Int) : Av := if rightO o then .tup [B8 (arcsL (numsL o)), lv (.int .i64 0)] else .tup [B8 [], lv (.int .i64 1)]
theorem arcsL_len : ∀ l : List Int, (arcsL l).length ≤ 6 * l.length
  | [] => by simp [arcsL]
  | x :: l => by
    have := arcsL_len l
    have := arcL_len x.toNat
    simp [arcsL] at *
    omega
theorem arcsL_take {l : List Int} {i : Nat} (h : i < l.length) : arcsL (l.take (i + 1)) = arcsL (l.take i) ++ arcL (l.getD i 0).toNat := by
  rw [List.take_add_one, List.getElem?_eq_getElem h, List.getD_eq_getElem?_getD, List.getElem?_eq_getElem h]
  simp only [arcsL, List.flatMap_append, Option.toList_some, List.flatMap_singleton, Option.getD_some]
/-- What Right says of the numbers. -/
theorem right_nums {o : List Int} (h : rightO o = true) : ∃ a b t, o = a :: b :: t ∧ 0 ≤ a ∧ a ≤ 2 ∧ 0 ≤ b ∧ b ≤ 2147483567 ∧ t.length ≤ 30 ∧ (∀ x ∈ t, 0 ≤ x ∧ x ≤ 2147483647) ∧ (a < 2 → b < 40) := by
  match o, h with
  | a :: b :: t, h =>
  rw [rightO_cons] at h
  by_cases h30 : 30 < t.length
  · rw [if_pos h30] at h; cases h
  rw [if_neg h30] at h
  by_cases ha : (a :: b :: t).all inR = false
  · rw [if_pos ha] at h; cases h
  rw [if_neg ha] at h
  have ha : ∀ x ∈ a :: b :: t, inR x = true := List.all_eq_true.1 (by simpa using ha)
  have hx : ∀ x ∈ a :: b :: t, 0 ≤ x ∧ x ≤ 2147483647 := fun x hx => by
    have := ha x hx
    simp [inR] at this
    exact this
  have h1 := hx a (by simp)
  have h2 := hx b (by simp)
  refine ⟨a, b, t, rfl, h1.1, ?_, h2.1, ?_, by omega, fun x hm => hx x (by simp [hm]), ?_⟩
  · by_cases e : a = 0 ∨ a = 1
    · omega
    · rw [if_neg e] at h
      by_cases e2 : a = 2
      · omega
      · rw [if_neg e2] at h; cases h
  · by_cases e : a = 0 ∨ a = 1
    · rw [if_pos e] at h; simp at h; omega
    · rw [if_neg e] at h
      by_cases e2 : a = 2
      · rw [if_pos e2] at h; simpa using h
      · rw [if_neg e2] at h; cases h
  · intro h3
    rw [if_pos (by omega)] at h
    simpa using h

theorem contO_ok (o : List Int) (hl : o.length ≤ 1000000) : Ct Try.prog 116 [I64 o] [] (contO o) [] [] := by
  by_cases hr : rightO o = true
  · obtain ⟨a, b, t, rfl, ha0, ha2, hb0, hb1, ht, hx, _⟩ := right_nums hr
    have hR : contO (a :: b :: t) = .tup [B8 (arcsL ((40 * a + b) :: t)), lv (.int .i64 0)] := by rw [contO, if_pos hr]; rfl
    rw [hR]
    have h1 := right_ok (a :: b :: t) hl
    rw [hr] at h1
    have h2 := numbers_ok a b t ⟨ha0, ha2⟩ ⟨hb0, by omega⟩ (by omega)
    obtain ⟨N, hN⟩ : ∃ N, (40 * a + b) :: t = N := ⟨_, rfl⟩
    have hNl : N.length ≤ 31 := by rw [← hN]; simp; omega
    have hNx : ∀ x ∈ N, 0 ≤ x ∧ x ≤ 2147483647 := by
      rw [← hN]
      intro x hm
      rcases List.mem_cons.1 hm with rfl | hm
      · omega
      · exact hx x hm
    rw [hN] at h2 ⊢
    refine Ct_intro Try.func116 rfl rfl rfl rfl rfl (fun E hn hb => ?_)
    repeat (first | refine stp ?_ | refine N_block_pass rfl ?_ | refine sp1 ?_ | refine sg1 ?_ | refine WL_nil ?_)
    refine s_call0 h1 rfl rfl rfl (by rw [hn]; rfl) rfl rfl (by first | trivial | (simp; done) | (simp; omega) | (simp at *; done) | (simp at *; omega)) rfl rfl rfl ?_
    repeat (first | refine stp ?_ | refine N_block_pass rfl ?_ | refine sp1 ?_ | refine sg1 ?_ | refine WL_nil ?_)
    refine W_cond rfl (by simp) (fun hc => ?_) (fun hc => ?_)
    · simp at hc
    repeat (first | refine stp ?_ | refine N_block_pass rfl ?_ | refine sp1 ?_ | refine sg1 ?_ | refine WL_nil ?_)
    refine s_allocN rfl rfl rfl (by rw [hn]; rfl) rfl zok41 ?_
    repeat (first | refine stp ?_ | refine N_block_pass rfl ?_ | refine sp1 ?_ | refine sg1 ?_ | refine WL_nil ?_)
    refine WL_sr (fun a w h => SR.cell_nil (cs := [.lf (.v (.slice none 0 0))]) (cs' := [.own 900 1 0 0]) 68 0 900 rfl rfl rfl rfl rfl h) ?_
    refine s_call0 h2 rfl rfl rfl (by rw [hn]; rfl) rfl rfl (by first | trivial | (simp; done) | (simp; omega) | (simp at *; done) | (simp at *; omega)) rfl rfl rfl ?_
    repeat (first | refine stp ?_ | refine N_block_pass rfl ?_ | refine sp1 ?_ | refine sg1 ?_ | refine WL_nil ?_)
    refine W_weaken (St.le_of (l := [(4, .c (.ptr 68 0)), (5, .c (.fn (.func 131) [] [.ptr 68 0])), (13, I64 N), (14, lv (.int .i64 (N.length : Int))), (15, lv (.int .i64 ((0 : Nat) : Int)))]) (h := [(68, .cells [.own 900 1 0 ([] : List Int).length]), (900, .row (.ints .u8 []))]) (by refine ⟨?_, ?_⟩ <;> (repeat' (first | exact trivial | exact rfl | refine ⟨?_, ?_⟩)) <;> first | exact rfl | (simp; done) | skip)) ?_
    refine W_loop (ι := {s : Nat × List Int // s.1 ≤ N.length ∧ s.2 = arcsL (N.take s.1)}) (fun s => St.of [(4, .c (.ptr 68 0)), (5, .c (.fn (.func 131) [] [.ptr 68 0])), (13, I64 N), (14, lv (.int .i64 (N.length : Int))), (15, lv (.int .i64 (s.1.1 : Int)))] [(68, .cells [.own 900 1 0 s.1.2.length]), (900, .row (.ints .u8 s.1.2))]) (fun s => N.length - s.1.1) (fun s => ?_) ⟨(0, []), by dsimp only; omega, rfl⟩
    obtain ⟨⟨i, acc⟩, hi, he⟩ := s
    dsimp only at hi he ⊢
    repeat (first | refine stp ?_ | refine N_block_pass rfl ?_ | refine sp1 ?_ | refine sg1 ?_ | refine WL_nil ?_)
    refine W_cond rfl (by simp) (fun hc => ?_) (fun hc => ?_)
    · have hi2 : i < N.length := by simpa using hc
      have hal : acc.length ≤ 1000 := by
        have := arcsL_len (N.take i)
        rw [he]
        simp at this
        omega
      have hxi : N.getD i 0 ∈ N := by rw [List.getD_eq_getElem?_getD, List.getElem?_eq_getElem hi2]; exact List.getElem_mem hi2
      have hxb := hNx _ hxi
      have hnext := arcsL_take hi2
      rw [← he] at hnext
      generalize hX : N.getD i 0 = X at *
      obtain ⟨x, rfl⟩ : ∃ x : Nat, X = x := ⟨X.toNat, by omega⟩
      rw [Int.toNat_natCast] at hnext
      have hput := put_ok acc x (by omega) (by omega)
      have e8 : acc.length + (arcL x).length = (acc ++ arcL x).length := by simp
      rw [e8] at hput
      repeat (first | refine stp ?_ | refine N_block_pass rfl ?_ | refine sp1 ?_ | refine sg1 ?_ | refine WL_nil ?_)
      rw [show N.getD (Int.toNat (i : Int)) 0 = (x : Int) from hX]
      repeat (first | refine stp ?_ | refine N_block_pass rfl ?_ | refine sp1 ?_ | refine sg1 ?_ | refine WL_nil ?_)
      refine s_callM [68, 900] hput rfl rfl (by rw [hn]; rfl) rfl rfl (by trivial) ⟨rfl, ⟨rfl, rfl⟩, (by simp [ordL]), rfl⟩ ?_
      repeat (first | refine stp ?_ | refine N_block_pass rfl ?_ | refine sp1 ?_ | refine sg1 ?_ | refine WL_nil ?_)
      refine N_sr (fun a w h => SR.mv 85 900 rfl rfl rfl rfl rfl h) ?_
      refine N_round ⟨(i + 1, acc ++ arcL x), by dsimp only; omega, hnext.symm⟩ (by dsimp only; omega) (St.le_of ⟨⟨rfl, rfl, rfl, rfl, rfl⟩, ⟨rfl, rfl⟩⟩)
    · have hi2 : i = N.length := by simp at hc; omega
      subst hi2
      rw [List.take_length] at he
      subst he
      repeat (first | refine stp ?_ | refine N_block_pass rfl ?_ | refine sp1 ?_ | refine sg1 ?_ | refine WL_nil ?_)
      refine N_freeze 900 [(2, B8 (arcsL N))] rfl hb ⟨⟨rfl, rfl, rfl, by simp, by simp⟩, rfl⟩ ?_
      exact rt1 []
  · have hr' : rightO o = false := by simpa using hr
    have hR : contO o = .tup [B8 [], lv (.int .i64 1)] := by rw [contO, if_neg hr]
    rw [hR]
    have h1 := right_ok o hl
    rw [hr'] at h1
    refine Ct_intro Try.func116 rfl rfl rfl rfl rfl (fun E hn hb => ?_)
    repeat (first | refine stp ?_ | refine N_block_pass rfl ?_ | refine sp1 ?_ | refine sg1 ?_ | refine WL_nil ?_)
    refine s_call0 h1 rfl rfl rfl (by rw [hn]; rfl) rfl rfl (by first | trivial | (simp; done) | (simp; omega) | (simp at *; done) | (simp at *; omega)) rfl rfl rfl ?_
    repeat (first | refine stp ?_ | refine N_block_pass rfl ?_ | refine sp1 ?_ | refine sg1 ?_ | refine WL_nil ?_)
    refine W_cond rfl (by simp) (fun hc => ?_) (fun hc => ?_)
    · repeat (first | refine stp ?_ | refine N_block_pass rfl ?_ | refine sp1 ?_ | refine sg1 ?_ | refine WL_nil ?_)
      refine N_retU [] rfl (by simp) (r' := .tup [B8 [], lv (.int .i64 1)]) ⟨.inr ⟨rfl, .inl ⟨_, rfl⟩⟩, .inl rfl, trivial⟩ ⟨rfl, trivial, trivial, rfl⟩ hb rfl trivial
    · simp at hc
end Go.Proofs.Ythoaneleeabadaa

namespace Go.Proofs.Ythoaneleeabadaa
set_option linter.unusedSimpArgs false
set_option linter.unusedVariables false
open Go.Sx

set_option maxRecDepth 10000

theorem refSame_ok (a b : List Int) (ha : a.length ≤ 1000000) (hb' : b.length ≤ 1000000) : Ct Try.prog 87 [I64 a, I64 b] [] (lv (.bool (decide (a = b)))) [] [] := by
  refine Ct_intro Try.func87 rfl rfl rfl rfl rfl (fun E hn hb => ?_)
  repeat (first | refine stp ?_ | refine N_block_pass rfl ?_ | refine sp1 ?_ | refine sg1 ?_ | refine WL_nil ?_)
  refine s_call0 (refCmp_ok a b ha hb') rfl rfl rfl (by rw [hn]; rfl) rfl rfl (by first | trivial | (simp; done) | (simp; omega) | (simp at *; done) | (simp at *; omega)) rfl rfl rfl ?_
  repeat (first | refine stp ?_ | refine N_block_pass rfl ?_ | refine sp1 ?_ | refine sg1 ?_ | refine WL_nil ?_)
  refine rt2 [] ?_ ?_
  · refine congrArg (fun x => lv (.bool x)) (?_ : (cmpL a b == 0) = decide (a = b))
    rw [Bool.eq_iff_iff]
    simp [cmpL_eq]
  · trivial
theorem arcL_small {n : Nat} (h : n < 128) : arcL n = [(n : Int)] := by
  have h1 : n / 128 = 0 := Nat.div_eq_of_lt h
  have h2 : n % 128 = n := Nat.mod_eq_of_lt h
  rw [arcL, h1, h2]
  rfl
theorem arcT_more : ∀ (k n : Nat), n < 128 ^ k → arcT (k + 1) n = arcT k n
  | 0, n, h => by
    have : n = 0 := by simpa using h
    subst this
    rfl
  | k + 1, n, h => by
    have h1 : n / 128 < 128 ^ k := by
      rw [Nat.pow_succ] at h
      exact Nat.div_lt_of_lt_mul (by rw [Nat.mul_comm]; exact h)
    have := arcT_more k (n / 128) h1
    unfold arcT
    split
    · rfl
    · rw [this]
theorem arcL_big {n : Nat} (h : ¬ n < 128) (h0 : n < 4294967296) : ∃ L, arcL (n / 128) = L ++ [((n / 128 % 128 : Nat) : Int)] ∧ arcL n = (L ++ [((n / 128 % 128 : Nat) : Int) + 128]) ++ [((n % 128 : Nat) : Int)] := by
  refine ⟨(arcT 5 (n / 128 / 128)).reverse, by simp [arcL], ?_⟩
  have h1 : n / 128 ≠ 0 := by omega
  have h2 := arcT_more 4 (n / 128 / 128) (by omega)
  rw [arcL]
  conv => lhs; unfold arcT
  rw [if_neg h1, ← h2]
  simp
end Go.Proofs.Ythoaneleeabadaa

namespace Go.Proofs.Ythoaneleeabadaa
set_option linter.unusedSimpArgs false
set_option linter.unusedVariables false
open Go.Sx

set_option maxRecDepth 10000

/-- An oid's contents, its whole; an error's number. -/
def conP (o : List Int) : List Int × Int := if rightO o then (arcsL (numsL o), 0) else ([], 1)
def whoP (o : List Int) : List Int × Int := if rightO o then (wrapL (ofT 6) (arcsL (numsL o)), 0) else ([], 1)
theorem conO_len {o : List Int} (hr : rightO o = true) : (arcsL (numsL o)).length ≤ 186 := by
  obtain ⟨a, b, t, rfl, _, _, _, _, ht, _⟩ := right_nums hr
  have := arcsL_len (numsL (a :: b :: t))
  simp [numsL] at *
  omega
theorem conP_ok (o : List Int) (hl : o.length ≤ 1000000) : Ct Try.prog 116 [I64 o] [] (.tup [B8 (conP o).1, lv (.int .i64 (conP o).2)]) [] [] := by
  have h := contO_ok o hl
  unfold contO at h
  unfold conP
  split at h
  · rename_i hr; rw [if_pos hr]; exact h
  · rename_i hr; rw [if_neg hr]; exact h
theorem owrite_ok (o : List Int) (hl : o.length ≤ 1000000) : Ct Try.prog 89 [I64 o] [] (.tup [B8 (whoP o).1, lv (.int .i64 (whoP o).2)]) [] [] := by
  have hc := conP_ok o hl
  by_cases hr : rightO o = true
  · have e1 : conP o = (arcsL (numsL o), 0) := if_pos hr
    have e2 : whoP o = (wrapL (ofT 6) (arcsL (numsL o)), 0) := if_pos hr
    have hlen := conO_len hr
    rw [e1] at hc
    rw [e2]
    generalize arcsL (numsL o) = X at *
    have hwr := wrap_ok (ofT 6) [X] (by decide) (by simp) (by simp; omega)
    rw [show [X].flatten = X by simp] at hwr
    have hof := headof_ok 6
    generalize ofT 6 = t at *
    generalize wrapL t X = Y at *
    refine Ct_intro Try.func89 rfl rfl rfl rfl rfl (fun E hn hb => ?_)
    repeat (first | refine stp ?_ | refine N_block_pass rfl ?_ | refine sp1 ?_ | refine sg1 ?_ | refine WL_nil ?_)
    refine s_call0 (hc) rfl rfl rfl (by rw [hn]; rfl) rfl rfl (by first | trivial | (simp; done) | (simp; omega) | (simp at *; done) | (simp at *; omega)) rfl rfl rfl ?_
    repeat (first | refine stp ?_ | refine N_block_pass rfl ?_ | refine sp1 ?_ | refine sg1 ?_ | refine WL_nil ?_)
    refine W_cond rfl (by simp) (fun h1 => ?_) (fun h1 => ?_)
    · simp at h1
    repeat (first | refine stp ?_ | refine N_block_pass rfl ?_ | refine sp1 ?_ | refine sg1 ?_ | refine WL_nil ?_)
    refine s_call0 (hof) rfl rfl rfl (by rw [hn]; rfl) rfl rfl (by first | trivial | (simp; done) | (simp; omega) | (simp at *; done) | (simp at *; omega)) rfl rfl rfl ?_
    repeat (first | refine stp ?_ | refine N_block_pass rfl ?_ | refine sp1 ?_ | refine sg1 ?_ | refine WL_nil ?_)
    refine WL_q (opq_of (opy_lit (d := (.recs 1 [[.ints .u8 X]])) rfl (elt_mk Try.underlying27 rfl rfl) zok41 rfl (by first | trivial | (simp; done) | (simp; omega) | (simp at *; done) | (simp at *; omega)) rfl ⟨by decide, by decide, rfl, rfl⟩) rfl) (by rw [hn]; rfl) ?_
    refine s_call0 (hwr) rfl rfl rfl (by rw [hn]; rfl) rfl rfl (by first | trivial | (simp; done) | (simp; omega) | (simp at *; done) | (simp at *; omega)) rfl rfl rfl ?_
    repeat (first | refine stp ?_ | refine N_block_pass rfl ?_ | refine sp1 ?_ | refine sg1 ?_ | refine WL_nil ?_)
    exact rt1 []
  · have e1 : conP o = ([], 1) := if_neg hr
    have e2 : whoP o = ([], 1) := if_neg hr
    rw [e1] at hc
    rw [e2]
    refine Ct_intro Try.func89 rfl rfl rfl rfl rfl (fun E hn hb => ?_)
    repeat (first | refine stp ?_ | refine N_block_pass rfl ?_ | refine sp1 ?_ | refine sg1 ?_ | refine WL_nil ?_)
    refine s_call0 (hc) rfl rfl rfl (by rw [hn]; rfl) rfl rfl (by first | trivial | (simp; done) | (simp; omega) | (simp at *; done) | (simp at *; omega)) rfl rfl rfl ?_
    repeat (first | refine stp ?_ | refine N_block_pass rfl ?_ | refine sp1 ?_ | refine sg1 ?_ | refine WL_nil ?_)
    refine W_cond rfl (by simp) (fun h1 => ?_) (fun h1 => ?_)
    · repeat (first | refine stp ?_ | refine N_block_pass rfl ?_ | refine sp1 ?_ | refine sg1 ?_ | refine WL_nil ?_)
      refine N_retU [] rfl (by simp) (r' := .tup [B8 [], lv (.int .i64 1)]) ⟨.inr ⟨rfl, .inl ⟨_, rfl⟩⟩, .inl rfl, trivial⟩ ⟨rfl, trivial, trivial, rfl⟩ hb rfl trivial
    · simp at h1
end Go.Proofs.Ythoaneleeabadaa

namespace Go.Proofs.Ythoaneleeabadaa
set_option linter.unusedSimpArgs false
set_option linter.unusedVariables false
open Go.Sx

set_option maxRecDepth 10000

theorem part_eq : ∀ {a b : List Int}, a.length = b.length → (partL a b = a.length ↔ a = b)
  | [], [], _ => by simp [partL]
  | [], _ :: _, h => by simp at h
  | _ :: _, [], h => by simp at h
  | x :: a, y :: b, h => by
    have ih := part_eq (a := a) (b := b) (by simpa using h)
    unfold partL
    by_cases e : x = y
    · subst e
      rw [if_pos rfl]
      simp [ih]
    · rw [if_neg e]
      simp [e]
theorem equal_ok (a b : List Int) (ha : a.length ≤ 1000000) (hb' : b.length ≤ 1000000) : Ct Try.prog 91 [B8 a, B8 b] [] (lv (.bool (decide (a = b)))) [] [] := by
  have hp := parted_ok a b ha hb'
  by_cases hl : a.length = b.length
  · have he := part_eq hl
    refine Ct_intro Try.func91 rfl rfl rfl rfl rfl (fun E hn hb => ?_)
    repeat refine nx ?_
    refine rt2 [] (congrArg (fun x => lv (.bool x)) ?_) trivial
    by_cases e : a = b
    · have h2 := he.2 e
      subst e
      simp [h2]
    · have h2 : ¬ partL a b = a.length := fun h => e (he.1 h)
      simp [e, hl]
      rw [hl] at h2
      omega
  · have hne : a ≠ b := fun e => hl (by rw [e])
    rw [decide_eq_false hne]
    refine Ct_intro Try.func91 rfl rfl rfl rfl rfl (fun E hn hb => ?_)
    repeat refine nx ?_
    refine rt2 [] (congrArg (fun x => lv (.bool x)) ?_) trivial
    have : ¬ ((a.length : Int) = b.length) := by omega
    simp
    intro h
    exact absurd h this
/-- An algorithm as a whole, or that it is none. -/
def wrG (o m : List Int) : List Int × Int := if rightG o m = true then (wrapL (ofT 16) (wrapL (ofT 6) (arcsL (numsL o)) ++ m), 0) else ([], 1)
theorem rightG_o {o m : List Int} (h : rightG o m = true) : rightO o = true := by unfold rightG at h; simp at h; exact h.1
theorem whole_len {o : List Int} (hr : rightO o = true) : (wrapL (ofT 6) (arcsL (numsL o))).length ≤ 206 := by
  have h1 := conO_len hr
  have h2 := wrap_len (ofT 6) (arcsL (numsL o))
  omega
theorem wralg_ok (o m : List Int) (ho : o.length ≤ 1000000) (hm : m.length ≤ 100000) (hw : WfB m) : Ct Try.prog 47 [algA o m] [] (.tup [B8 (wrG o m).1, lv (.int .i64 (wrG o m).2)]) [] [] := by
  have hra := rightalg_ok o m ho hm hw
  unfold wrG
  cases hg : rightG o m with
  | false =>
    rw [hg] at hra
    rw [if_neg (by simp)]
    refine Ct_intro Try.func47 rfl rfl rfl rfl rfl (fun E hn hb => ?_)
    repeat refine nx ?_
    exact rtU []
  | true =>
    rw [hg] at hra
    rw [if_pos rfl]
    have hro := rightG_o hg
    have how := owrite_ok o ho
    unfold whoP at how
    rw [if_pos hro] at how
    have hwl := whole_len hro
    have hsq := sequence_ok [wrapL (ofT 6) (arcsL (numsL o)), m] (by simp) (by simp; omega)
    rw [show [wrapL (ofT 6) (arcsL (numsL o)), m].flatten = wrapL (ofT 6) (arcsL (numsL o)) ++ m by simp] at hsq
    generalize wrapL (ofT 6) (arcsL (numsL o)) = W at *
    refine Ct_intro Try.func47 rfl rfl rfl rfl rfl (fun E hn hb => ?_)
    repeat refine nx ?_
    exact rt1 []
theorem samealg_ok (o m o' m' : List Int) (ho : o.length ≤ 1000000) (hm : m.length ≤ 100000) (hw : WfB m) (ho' : o'.length ≤ 1000000) (hm' : m'.length ≤ 100000) (hw' : WfB m') (hr : rightG o m = true) (hr' : rightG o' m' = true) :
    Ct Try.prog 48 [algA o m, algA o' m'] [] (lv (.bool (decide ((wrG o m).1 = (wrG o' m').1)))) [] [] := by
  have h1 := wralg_ok o m ho hm hw
  have h2 := wralg_ok o' m' ho' hm' hw'
  have w1 := whole_len (rightG_o hr)
  have w2 := whole_len (rightG_o hr')
  unfold wrG at *
  rw [if_pos hr] at *
  rw [if_pos hr'] at *
  have l1 := wrap_len (ofT 16) (wrapL (ofT 6) (arcsL (numsL o)) ++ m)
  have l2 := wrap_len (ofT 16) (wrapL (ofT 6) (arcsL (numsL o')) ++ m')
  rw [List.length_append] at l1 l2
  dsimp only at *
  generalize wrapL (ofT 16) (wrapL (ofT 6) (arcsL (numsL o)) ++ m) = X at *
  generalize wrapL (ofT 16) (wrapL (ofT 6) (arcsL (numsL o')) ++ m') = Y at *
  have heq := equal_ok X Y (by omega) (by omega)
  refine Ct_intro Try.func48 rfl rfl rfl rfl rfl (fun E hn hb => ?_)
  repeat refine nx ?_
  refine rt2 [] (congrArg (fun x => lv (.bool x)) ?_) trivial
  rfl
theorem wrnull_ok : Ct Try.prog 113 [] [] (B8 [5, 0]) [] [] := by
  refine Ct_intro Try.func113 rfl rfl rfl rfl rfl (fun E hn hb => ?_)
  repeat refine nx ?_
  exact rt1 []
theorem sha256_ok : Ct Try.prog 85 [] [] (algA [2, 16, 840, 1, 101, 3, 4, 2, 1] [5, 0]) [] [] := by
  have h := wrnull_ok
  refine Ct_intro Try.func85 rfl rfl rfl rfl rfl (fun E hn hb => ?_)
  repeat refine nx ?_
  exact rt1 []
theorem hmac_ok : Ct Try.prog 86 [] [] (algA [1, 2, 840, 113549, 2, 9] [5, 0]) [] [] := by
  have h := wrnull_ok
  refine Ct_intro Try.func86 rfl rfl rfl rfl rfl (fun E hn hb => ?_)
  repeat refine nx ?_
  exact rt1 []
end Go.Proofs.Ythoaneleeabadaa

namespace Go.Proofs.Ythoaneleeabadaa
set_option linter.unusedSimpArgs false
set_option linter.unusedVariables false
open Go.Sx

set_option maxRecDepth 10000

/-- A digit's value. -/
def hexV (c : Int) : Int := if 48 ≤ c ∧ c ≤ 57 then c - 48 else if 97 ≤ c ∧ c ≤ 102 then c - 97 + 10 else 16
theorem value_ok (c : Int) (hc : 0 ≤ c ∧ c < 256) : Ct Try.prog 112 [lv (.int .u8 c)] [] (lv (.int .u8 (hexV c))) [] [] := by
  unfold hexV
  by_cases h1 : 48 ≤ c ∧ c ≤ 57
  · rw [if_pos h1]
    refine Ct_intro Try.func112 rfl rfl rfl rfl rfl (fun E hn hb => ?_)
    repeat refine nx ?_
    exact rt1 []
  · rw [if_neg h1]
    by_cases h2 : 97 ≤ c ∧ c ≤ 102
    · rw [if_pos h2]
      refine Ct_intro Try.func112 rfl rfl rfl rfl rfl (fun E hn hb => ?_)
      repeat refine nx ?_
      exact rt1 []
    · rw [if_neg h2]
      refine Ct_intro Try.func112 rfl rfl rfl rfl rfl (fun E hn hb => ?_)
      repeat refine nx ?_
      exact rt1 []
/-- The bytes of so many pairs of digits. -/
def unhL (l : List Int) (k : Nat) : List Int := (List.range k).map fun j => 16 * hexV (l.getD (2 * j) 0) + hexV (l.getD (2 * j + 1) 0)
theorem unh_next (l : List Int) (k : Nat) : unhL l (k + 1) = unhL l k ++ [16 * hexV (l.getD (2 * k) 0) + hexV (l.getD (2 * k + 1) 0)] := by
  unfold unhL
  rw [List.range_succ, List.map_append]
  rfl
theorem orHx : ∀ x : Fin 16, ∀ y : Fin 16, IntKind.u8.wrap (BitVec.ofInt IntKind.u8.bits (((x.val : Nat) : Int) * 2 ^ min (Int.toNat 4) IntKind.u8.bits) ||| BitVec.ofInt IntKind.u8.bits ((y.val : Nat) : Int)).toNat = 16 * ((x.val : Nat) : Int) + ((y.val : Nat) : Int) := by decide +kernel
theorem orH {X Y : Int} (hx : X ≤ 15 ∧ 0 ≤ X) (hy : Y ≤ 15 ∧ 0 ≤ Y) : IntKind.u8.wrap (BitVec.ofInt IntKind.u8.bits (X * 2 ^ min (Int.toNat 4) IntKind.u8.bits) ||| BitVec.ofInt IntKind.u8.bits Y).toNat = 16 * X + Y := by
  obtain ⟨x, rfl⟩ : ∃ x : Nat, X = x := ⟨X.toNat, by omega⟩
  obtain ⟨y, rfl⟩ : ∃ y : Nat, Y = y := ⟨Y.toNat, by omega⟩
  exact orHx ⟨x, by omega⟩ ⟨y, by omega⟩
theorem unhex_ok (l : List Int) (n : Nat) (hn2 : l.length = 2 * n) (hl : l.length ≤ 1000) (hw : ∀ x ∈ l, 0 ≤ x ∧ x < 256) (hx : ∀ i, i < l.length → hexV (l.getD i 0) ≤ 15 ∧ 0 ≤ hexV (l.getD i 0)) :
    Ct Try.prog 81 [lv (.string (strOfNums l))] [] (.tup [B8 (unhL l n), lv (.int .i64 0)]) [] [] := by
  have hs : (strOfNums l).size = l.length := strOfNums_size l
  refine Ct_intro Try.func81 rfl rfl rfl rfl rfl (fun E hn hb => ?_)
  repeat refine nx ?_
  refine s_makeI (by_ := 1) rfl rfl rfl (by rw [hn]; rfl) (elt_mk Try.underlying41 rfl rfl) rfl rfl rfl (by first | trivial | (simp; done) | (simp; omega) | (simp at *; done) | (simp at *; omega)) 0 (by first | rfl | (simp; done) | omega) (by first | (simp; done) | omega | (simp at *; omega)) ?_
  repeat refine nx ?_
  refine W_weaken (St.le_of (l := [(0, lv (.string (strOfNums l))), (4, .c (.own 79 1 0 (unhL l 0).length)), (5, lv (.int .i64 ((2 * 0 : Nat) : Int)))]) (h := [(79, .row (.ints .u8 (unhL l 0)))]) (by refine ⟨?_, ?_⟩ <;> (repeat' (first | exact trivial | exact rfl | refine ⟨?_, ?_⟩)) <;> first | exact rfl | (simp; done) | skip)) ?_
  refine W_loop (ι := {k : Nat // k ≤ n}) (fun k => St.of [(0, lv (.string (strOfNums l))), (4, .c (.own 79 1 0 (unhL l k.1).length)), (5, lv (.int .i64 ((2 * k.1 : Nat) : Int)))] [(79, .row (.ints .u8 (unhL l k.1)))]) (fun k => n - k.1) (fun k => ?_) ⟨0, Nat.zero_le _⟩
  obtain ⟨k, hk⟩ := k
  dsimp only
  by_cases hk2 : k < n
  · have h1 := hx (2 * k) (by omega)
    have h2 := hx (2 * k + 1) (by omega)
    have ul : (unhL l k).length = k := by simp [unhL]
    repeat refine nx ?_
    have e1 : (bs (strOfNums l)).getD ((2 * k : Nat) : Int).toNat 0 = l.getD (2 * k) 0 := by rw [bsN hw, Int.toNat_natCast]
    have e2 : (bs (strOfNums l)).getD (((2 * k : Nat) : Int) + 1).toNat 0 = l.getD (2 * k + 1) 0 := by rw [bsN hw, show (((2 * k : Nat) : Int) + 1).toNat = 2 * k + 1 by omega]
    have b1 : 0 ≤ l.getD (2 * k) 0 ∧ l.getD (2 * k) 0 < 256 := wf_at hw _
    have b2 : 0 ≤ l.getD (2 * k + 1) 0 ∧ l.getD (2 * k + 1) 0 < 256 := wf_at hw _
    refine duc1 (hF := value_ok _ ?c1) ?k1
    case c1 => rw [e1]; exact b1
    repeat refine nx ?_
    refine duc1 (hF := value_ok _ ?c2) ?k2
    case c2 => rw [e2]; exact b2
    repeat refine nx ?_
    rw [e1, e2]
    have hnx := unh_next l k
    generalize hexV (l.getD (2 * k) 0) = X at *
    generalize hexV (l.getD (2 * k + 1) 0) = Y at *
    repeat refine nx ?_
    rw [orH h1 h2, ← hnx]
    have e3 : ((2 * k : Nat) : Int) + 2 = ((2 * (k + 1) : Nat) : Int) := by omega
    rw [e3]
    refine N_round ⟨k + 1, by omega⟩ (by dsimp only; omega) (St.le_of ⟨⟨rfl, rfl, rfl⟩, rfl⟩)
  · obtain rfl : k = n := by omega
    repeat refine nx ?_
    refine frzN 2 ?_
    exact rt1 []
end Go.Proofs.Ythoaneleeabadaa

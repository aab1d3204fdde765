/-
  Build: sets in order, the program's and the document's. The conditions: rows that a machine can hold, few of them.
-/
import Derived.Test.YthoaneleeabadaaD15
import Derived.Test.YthoaneleeabadaaC19
import Derived.Test.YthoaneleeabadaaSxQ
import Derived.Test.YthoaneleeabadaaC7
import Derived.Test.YthoaneleeabadaaD8
import Derived.Test.YthoaneleeabadaaSxX
namespace Go.Proofs.Ythoaneleeabadaa
set_option linter.unusedSimpArgs false
set_option linter.unusedVariables false
open Go.Sx

set_option maxRecDepth 10000

/-- The next whole: its bytes, its tag, its contents, what is wrong; where the cursor is then. -/
def oneP (l : List Int) (p : Nat) : List Int × TagP × List Int × Int × Nat :=
  if ¬ (readP l p).2.2 = 0 then ([], (readP l p).1.1, [], (readP l p).2.2, p)
  else if (l.length : Int) - (readP l p).2.1 < (readP l p).1.2 then ([], (readP l p).1.1, [], 3, p)
  else ((l.drop p).take ((readP l p).2.1 - p + (readP l p).1.2.toNat), (readP l p).1.1, (l.drop (readP l p).2.1).take (readP l p).1.2.toNat, 0, (readP l p).2.1 + (readP l p).1.2.toNat)
set_option maxHeartbeats 4000000 in
theorem one_ok (l : List Int) (p : Nat) (hp : p ≤ l.length) (hl : l.length ≤ 1000000) (hw : WfB l) :
    Ct Try.prog 66 [.c (.ptr 0 0)] [curB l p] (.tup [B8 (oneP l p).1, tagA (oneP l p).2.1, B8 (oneP l p).2.2.1, lv (.int .i64 (oneP l p).2.2.2.1)]) [curB l (oneP l p).2.2.2.2] [] := by
  have hr := headread_ok l p hp hl hw
  have hle := readP_le l p hp
  have hpos := readP_pos l p hw
  have hst : ¬ (readP l p).2.2 = 0 → (readP l p).2.1 = p := keepP_stay _ _ _
  have hat := at_ok l p
  generalize hRR : oneP l p = R
  unfold oneP at hRR
  generalize readP l p = F at *
  obtain ⟨⟨⟨t1, t2, t3⟩, n⟩, q, e⟩ := F
  dsimp only at *
  by_cases he : e = 0
  · subst he
    rw [if_neg (by simp)] at hRR
    obtain ⟨N, rfl⟩ : ∃ N : Nat, n = N := ⟨n.toNat, by omega⟩
    rw [Int.toNat_natCast] at hRR
    have hat2 := at_ok l q
    have hlf := left_ok l q hle.2 (by omega)
    have hbk := back_ok l q p hle.1 (by omega)
    by_cases hN : (l.length : Int) - q < N
    · rw [if_pos hN] at hRR
      subst hRR
      refine Ct_intro Try.func66 rfl rfl rfl rfl rfl (fun E hn hb => ?_)
      repeat refine nx ?_
      exact rtU []
    · rw [if_neg hN] at hRR
      subst hRR
      have htk := take_ok l p (q - p + N) (by omega) hl
      rw [show ((q - p + N : Nat) : Int) = ((q : Int) - (p : Int)) + (N : Int) by omega, show p + (q - p + N) = q + N by omega] at htk
      have hcut : (((l.drop p).take (q - p + N)).take (((l.drop p).take (q - p + N)).length : Int).toNat).drop ((q : Int) - (p : Int)).toNat = (l.drop q).take N := by
        rw [Int.toNat_natCast, List.take_length, show ((q : Int) - (p : Int)).toNat = q - p by omega, List.drop_take, List.drop_drop]
        congr 1
        · omega
        · congr 1; omega
      dsimp only
      rw [← hcut]
      refine Ct_intro Try.func66 rfl rfl rfl rfl rfl (fun E hn hb => ?_)
      repeat refine nx ?_
      exact rtU []
  · rw [if_pos he] at hRR
    obtain rfl := hst he
    subst hRR
    refine Ct_intro Try.func66 rfl rfl rfl rfl rfl (fun E hn hb => ?_)
    repeat refine nx ?_
    exact rtU []
theorem one_le (l : List Int) (p : Nat) (hp : p ≤ l.length) (hw : WfB l) : p ≤ (oneP l p).2.2.2.2 ∧ (oneP l p).2.2.2.2 ≤ l.length ∧ (oneP l p).1.length ≤ l.length ∧ (oneP l p).2.2.1.length ≤ l.length := by
  have hle := readP_le l p hp
  have hpos := readP_pos l p hw
  unfold oneP
  split
  · exact ⟨Nat.le_refl _, hp, Nat.zero_le _, Nat.zero_le _⟩
  · split
    · exact ⟨Nat.le_refl _, hp, Nat.zero_le _, Nat.zero_le _⟩
    · dsimp only
      refine ⟨by omega, by omega, ?_, ?_⟩ <;> simp <;> omega
theorem headat_ok (n : Int) (b : Bool) : Ct Try.prog 94 [lv (.int .i64 n), lv (.bool b)] [] (tagA (2, n, b)) [] [] := by
  refine Ct_intro Try.func94 rfl rfl rfl rfl rfl (fun E hn hb => ?_)
  repeat refine nx ?_
  exact rt1 []
end Go.Proofs.Ythoaneleeabadaa

namespace Go.Proofs.Ythoaneleeabadaa
set_option linter.unusedSimpArgs false
set_option linter.unusedVariables false
open Go.Sx

set_option maxRecDepth 10000

theorem tbytes_err (t : TagP) (h : rightT t = false) : Ct Try.prog 105 [tagA t] [] (.tup [B8 [], lv (.int .i64 1)]) [] [] := by
  have hr := headright_ok t
  rw [h] at hr
  refine Ct_intro Try.func105 rfl rfl rfl rfl rfl (fun E hn hb => ?_)
  repeat refine nx ?_
  exact rtU []
theorem wrap_err (t : TagP) (bs : List (List Int)) (h : rightT t = false) : Ct Try.prog 74 [tagA t, rowsA bs] [] (.tup [B8 [], lv (.int .i64 1)]) [] [] := by
  have hr := tbytes_err t h
  refine Ct_intro Try.func74 rfl rfl rfl rfl rfl (fun E hn hb => ?_)
  repeat refine nx ?_
  exact rtU []
/-- A tag around contents, or what is wrong. -/
def wrapR (t : TagP) (b : List Int) : List Int × Int := if rightT t = true then (wrapL t b, 0) else ([], 1)
theorem wrapR_ok (t : TagP) (bs : List (List Int)) (hbl : bs.length ≤ 100000) (hl : bs.flatten.length ≤ 1000000) :
    Ct Try.prog 74 [tagA t, rowsA bs] [] (.tup [B8 (wrapR t bs.flatten).1, lv (.int .i64 (wrapR t bs.flatten).2)]) [] [] := by
  unfold wrapR
  cases h : rightT t with
  | true => rw [if_pos rfl]; exact wrap_ok t bs h hbl hl
  | false => rw [if_neg (by simp)]; exact wrap_err t bs h
theorem refright2_ok (t : TagP) : Ct Try.prog 31 [tagA t] [] (lv (.bool (rightT t))) [] [] := by
  obtain ⟨a, b, c⟩ := t
  unfold rightT
  refine Ct_intro Try.func31 rfl rfl rfl rfl rfl (fun E hn hb => ?_)
  repeat refine nx ?_
  refine rt2 [] (congrArg (fun x => lv (.bool x)) ?_) trivial
  dsimp only
  by_cases h1 : 0 ≤ a <;> by_cases h2 : a ≤ 3 <;> by_cases h3 : 0 ≤ b <;> by_cases h4 : b < 2097152 <;> simp [h1, h2, h3, h4] <;> omega
/-- A context's tag in the tag's place. -/
def implP (n : Int) (l : List Int) : List Int × Int :=
  if ¬ (oneP l 0).2.2.2.1 = 0 then ([], (oneP l 0).2.2.2.1)
  else if (oneP l 0).2.2.2.2 < l.length then ([], 7) else wrapR (2, n, (oneP l 0).2.1.2.2) (oneP l 0).2.2.1
set_option maxHeartbeats 4000000 in
theorem implicit_ok (n : Int) (l : List Int) (hl : l.length ≤ 100000) (hw : WfB l) : Ct Try.prog 58 [lv (.int .i64 n), B8 l] [] (.tup [B8 (implP n l).1, lv (.int .i64 (implP n l).2)]) [] [] := by
  have h0 := curnew_ok l (by omega)
  have h1 := one_ok l 0 (by omega) (by omega) hw
  have h2 := one_le l 0 (by omega) hw
  unfold implP
  generalize oneP l 0 = O at *
  obtain ⟨a, ⟨t1, t2, t3⟩, c, e, q⟩ := O
  dsimp only at *
  have h3 := left_ok l q h2.2.1 (by omega)
  have h4 := headat_ok n t3
  have h5 := wrapR_ok (2, n, t3) [c] (by simp) (by simp; omega)
  rw [show [c].flatten = c by simp] at h5
  by_cases he : e = 0
  · subst he
    rw [if_neg (by simp)]
    by_cases hq : q < l.length
    · rw [if_pos hq]
      refine Ct_intro Try.func58 rfl rfl rfl rfl rfl (fun E hn hb => ?_)
      repeat refine nx ?_
      exact rtU []
    · rw [if_neg hq]
      refine Ct_intro Try.func58 rfl rfl rfl rfl rfl (fun E hn hb => ?_)
      repeat refine nx ?_
      exact rt1 []
  · rw [if_pos he]
    refine Ct_intro Try.func58 rfl rfl rfl rfl rfl (fun E hn hb => ?_)
    repeat refine nx ?_
    exact rtU []
end Go.Proofs.Ythoaneleeabadaa

namespace Go.Proofs.Ythoaneleeabadaa
set_option linter.unusedSimpArgs false
set_option linter.unusedVariables false
open Go.Sx

set_option maxRecDepth 10000

abbrev recB (rs : List (List Int)) : List (List Leaf) := rs.map fun b => [.ints .u8 b]
end Go.Proofs.Ythoaneleeabadaa

namespace Go.Proofs.Ythoaneleeabadaa
set_option linter.unusedSimpArgs false
set_option linter.unusedVariables false
open Go.Sx

set_option maxRecDepth 10000

/-- The first place where two rows part. -/
def partL : List Int → List Int → Nat
  | x :: a, y :: b => if x = y then partL a b + 1 else 0
  | _, _ => 0
theorem part_le : ∀ a b : List Int, partL a b ≤ a.length ∧ partL a b ≤ b.length
  | [], b => by cases b <;> simp [partL]
  | x :: a, [] => by simp [partL]
  | x :: a, y :: b => by
    have := part_le a b
    simp only [partL]
    split <;> simp <;> omega
theorem part_step : ∀ (a b : List Int) (i : Nat), (∀ k, k < i → a.getD k 0 = b.getD k 0) → i < a.length → i < b.length → a.getD i 0 ≠ b.getD i 0 → partL a b = i
  | [], b, i, _, h, _, _ => by simp at h
  | x :: a, [], i, _, _, h, _ => by simp at h
  | x :: a, y :: b, 0, _, _, _, h => by simp at h; simp [partL, h]
  | x :: a, y :: b, i + 1, h, h1, h2, h3 => by
    have h0 : x = y := by simpa using h 0 (by omega)
    have := part_step a b i (fun k hk => by simpa using h (k + 1) (by omega)) (by simpa using h1) (by simpa using h2) (by simpa using h3)
    simp only [partL, h0, if_true, this]
theorem part_all : ∀ (a b : List Int), (∀ k, k < min a.length b.length → a.getD k 0 = b.getD k 0) → partL a b = min a.length b.length
  | [], b, _ => by cases b <;> simp [partL]
  | x :: a, [], _ => by simp [partL]
  | x :: a, y :: b, h => by
    have h0 : x = y := by simpa using h 0 (by simp)
    have := part_all a b (fun k hk => by simpa using h (k + 1) (by simp; omega))
    simp only [partL, h0, if_true, this]
    simp
theorem part_cmp : ∀ (a b : List Int), cmpL a b = (if partL a b < a.length ∧ partL a b < b.length then (if a.getD (partL a b) 0 < b.getD (partL a b) 0 then -1 else 1) else if partL a b < b.length then -1 else if partL a b < a.length then 1 else 0)
  | [], [] => rfl
  | [], y :: b => by simp [cmpL, partL]
  | x :: a, [] => by simp [cmpL, partL]
  | x :: a, y :: b => by
    have ih := part_cmp a b
    by_cases h : x = y
    · subst h
      simp only [cmpL, Int.lt_irrefl, if_false, partL, if_true, ih, List.length_cons, Nat.add_lt_add_iff_right, List.getD_cons_succ]
    · simp only [cmpL, partL, h, if_false, List.length_cons, Nat.zero_lt_succ, and_self, if_true, List.getD_cons_zero]
      by_cases h1 : x < y
      · simp [h1]
      · have : y < x := by omega
        simp [h1, this]

theorem parted_ok (a b : List Int) (ha : a.length ≤ 1000000) (hb' : b.length ≤ 1000000) : Ct Try.prog 96 [B8 a, B8 b] [] (lv (.int .i64 (partL a b))) [] [] := by
  refine Ct_intro Try.func96 rfl rfl rfl rfl rfl (fun E hn hb => ?_)
  repeat (first | refine stp ?_ | refine N_block_pass rfl ?_ | refine sp1 ?_ | refine sg1 ?_ | refine WL_nil ?_)
  have hN : min (a.length : Int) b.length = ((min a.length b.length : Nat) : Int) := by omega
  rw [hN]
  generalize hn0 : min a.length b.length = n at *
  refine W_weaken (St.le_of (l := [(0, B8 a), (1, B8 b), (5, lv (.int .i64 (n : Int))), (12, lv (.int .i64 (n : Int))), (13, lv (.int .i64 0))]) (h := []) (by refine ⟨?_, ?_⟩ <;> (repeat' (first | exact trivial | exact rfl | refine ⟨?_, ?_⟩)) <;> first | exact rfl | (simp; done) | skip)) ?_
  refine W_loop (ι := {i : Nat // i ≤ n ∧ ∀ k, k < i → a.getD k 0 = b.getD k 0}) (fun i => St.of [(0, B8 a), (1, B8 b), (5, lv (.int .i64 (n : Int))), (12, lv (.int .i64 (n : Int))), (13, lv (.int .i64 (i.1 : Int)))] []) (fun i => n - i.1) (fun i => ?_) ⟨0, by omega, fun k hk => by omega⟩
  obtain ⟨i, hi, he⟩ := i
  dsimp only
  repeat (first | refine stp ?_ | refine N_block_pass rfl ?_ | refine sp1 ?_ | refine sg1 ?_ | refine WL_nil ?_)
  refine W_cond rfl (by simp) (fun hc => ?_) (fun hc => ?_)
  · have hin : i < n := by simp at hc; omega
    repeat (first | refine stp ?_ | refine N_block_pass rfl ?_ | refine sp1 ?_ | refine sg1 ?_ | refine WL_nil ?_)
    refine W_drawW 9 (by kernel_rfl) (by kernel_rfl) (by kernel_rfl) (by rw [hn]; rfl) rfl rfl ?_
    repeat (first | refine dp1 ?_ | refine dg1 ?_ | refine DrawW_nil ?_)
    repeat (first | refine stp ?_ | refine N_block_pass rfl ?_ | refine sp1 ?_ | refine sg1 ?_ | refine WL_nil ?_)
    refine W_cond rfl (by simp) (fun hq => ?_) (fun hq => ?_)
    · have hne : a.getD i 0 ≠ b.getD i 0 := by simpa using hq
      rw [part_step a b i he (by omega) (by omega) hne]
      repeat (first | refine stp ?_ | refine N_block_pass rfl ?_ | refine sp1 ?_ | refine sg1 ?_ | refine WL_nil ?_)
      exact rt1 []
    · have hne : a.getD i 0 = b.getD i 0 := by simpa using hq
      repeat (first | refine stp ?_ | refine N_block_pass rfl ?_ | refine sp1 ?_ | refine sg1 ?_ | refine WL_nil ?_)
      refine N_round ⟨i + 1, by omega, fun k hk => ?_⟩ (by dsimp only; omega) (St.le_of ⟨⟨rfl, rfl, rfl, rfl, rfl⟩, trivial⟩)
      rcases Nat.lt_or_ge k i with h | h
      · exact he k h
      · have : k = i := by omega
        subst this; exact hne
  · have : i = n := by simp at hc; omega
    subst this
    rw [part_all a b (by rw [hn0]; exact he), hn0]
    repeat (first | refine stp ?_ | refine N_block_pass rfl ?_ | refine sp1 ?_ | refine sg1 ?_ | refine WL_nil ?_)
    exact rt1 []

theorem octcmp_ok (a b : List Int) (ha : a.length ≤ 1000000) (hb' : b.length ≤ 1000000) : Ct Try.prog 64 [B8 a, B8 b] [] (lv (.int .i64 (cmpL a b))) [] [] := by
  have hpc := part_cmp a b
  obtain ⟨hp1, hp2⟩ := part_le a b
  generalize cmpL a b = r at *
  refine Ct_intro Try.func64 rfl rfl rfl rfl rfl (fun E hn hb => ?_)
  repeat (first | refine stp ?_ | refine N_block_pass rfl ?_ | refine sp1 ?_ | refine sg1 ?_ | refine WL_nil ?_)
  refine s_call0 (parted_ok a b ha hb') rfl rfl rfl (by rw [hn]; rfl) rfl rfl (by first | trivial | (simp; done) | (simp; omega) | (simp at *; done) | (simp at *; omega)) rfl rfl rfl ?_
  repeat (first | refine stp ?_ | refine N_block_pass rfl ?_ | refine sp1 ?_ | refine sg1 ?_ | refine WL_nil ?_)
  generalize partL a b = n at *
  refine W_cond rfl (by simp) (fun hq => ?_) (fun hq => ?_)
  · have h1 : n < a.length ∧ n < b.length := by simpa [Bool.cond_eq_ite] using hq
    rw [if_pos h1] at hpc
    obtain ⟨h1a, h1b⟩ := h1
    repeat (first | refine stp ?_ | refine N_block_pass rfl ?_ | refine sp1 ?_ | refine sg1 ?_ | refine WL_nil ?_)
    refine W_drawW 9 (by kernel_rfl) (by kernel_rfl) (by kernel_rfl) (by rw [hn]; rfl) rfl rfl ?_
    repeat (first | refine dp1 ?_ | refine dg1 ?_ | refine DrawW_nil ?_)
    repeat (first | refine stp ?_ | refine N_block_pass rfl ?_ | refine sp1 ?_ | refine sg1 ?_ | refine WL_nil ?_)
    refine W_cond rfl (by simp) (fun hr => ?_) (fun hr => ?_)
    · have h2 : a.getD n 0 < b.getD n 0 := by simpa using hr
      rw [if_pos h2] at hpc
      subst hpc
      repeat (first | refine stp ?_ | refine N_block_pass rfl ?_ | refine sp1 ?_ | refine sg1 ?_ | refine WL_nil ?_)
      exact rt1 []
    · have h2 : ¬ a.getD n 0 < b.getD n 0 := by simpa using hr
      rw [if_neg h2] at hpc
      subst hpc
      repeat (first | refine stp ?_ | refine N_block_pass rfl ?_ | refine sp1 ?_ | refine sg1 ?_ | refine WL_nil ?_)
      exact rt1 []
  · have h1 : ¬ (n < a.length ∧ n < b.length) := by
      simp [Bool.cond_eq_ite] at hq
      omega
    rw [if_neg h1] at hpc
    repeat (first | refine stp ?_ | refine N_block_pass rfl ?_ | refine sp1 ?_ | refine sg1 ?_ | refine WL_nil ?_)
    refine W_cond rfl (by simp) (fun hr => ?_) (fun hr => ?_)
    · have h2 : n < b.length := by simpa using hr
      rw [if_pos h2] at hpc
      subst hpc
      repeat (first | refine stp ?_ | refine N_block_pass rfl ?_ | refine sp1 ?_ | refine sg1 ?_ | refine WL_nil ?_)
      exact rt1 []
    · have h2 : ¬ n < b.length := by simp at hr; omega
      rw [if_neg h2] at hpc
      repeat (first | refine stp ?_ | refine N_block_pass rfl ?_ | refine sp1 ?_ | refine sg1 ?_ | refine WL_nil ?_)
      refine W_cond rfl (by simp) (fun hu => ?_) (fun hu => ?_)
      · have h3 : n < a.length := by simpa using hu
        rw [if_pos h3] at hpc
        subst hpc
        repeat (first | refine stp ?_ | refine N_block_pass rfl ?_ | refine sp1 ?_ | refine sg1 ?_ | refine WL_nil ?_)
        exact rt1 []
      · have h3 : ¬ n < a.length := by simp at hu; omega
        rw [if_neg h3] at hpc
        subst hpc
        repeat (first | refine stp ?_ | refine N_block_pass rfl ?_ | refine sp1 ?_ | refine sg1 ?_ | refine WL_nil ?_)
        exact rt1 []

end Go.Proofs.Ythoaneleeabadaa

namespace Go.Proofs.Ythoaneleeabadaa
set_option linter.unusedSimpArgs false
set_option linter.unusedVariables false
open Go.Sx

set_option maxRecDepth 10000

/-- The element at a place goes down as long as it is less. -/
def bubD : Nat → List (List Int) → List (List Int)
  | 0, rs => rs
  | j + 1, rs => if cmpL (rs.getD (j + 1) []) (rs.getD j []) < 0 then bubD j ((rs.set (j + 1) (rs.getD j [])).set j (rs.getD (j + 1) [])) else rs
/-- All from a place on, n of them. -/
def isortA : Nat → Nat → List (List Int) → List (List Int)
  | _, 0, rs => rs
  | i, n + 1, rs => isortA (i + 1) n (bubD i rs)
theorem bubD_len : ∀ (j : Nat) (rs : List (List Int)), (bubD j rs).length = rs.length
  | 0, _ => rfl
  | j + 1, rs => by
    unfold bubD
    split
    · rw [bubD_len]; simp
    · rfl
def RowsB (rs : List (List Int)) : Prop := ∀ r ∈ rs, r.length ≤ 1000000
theorem getD_rows {rs : List (List Int)} (h : RowsB rs) (i : Nat) : (rs.getD i []).length ≤ 1000000 := by
  rcases Nat.lt_or_ge i rs.length with hi | hi
  · rw [List.getD_eq_getElem?_getD, List.getElem?_eq_getElem hi]
    exact h _ (List.getElem_mem hi)
  · rw [List.getD_eq_getElem?_getD, List.getElem?_eq_none hi]
    exact Nat.zero_le _
theorem set_rows {rs : List (List Int)} (h : RowsB rs) (i : Nat) {x : List Int} (hx : x.length ≤ 1000000) : RowsB (rs.set i x) := by
  intro r hr
  rcases List.mem_or_eq_of_mem_set hr with h1 | h1
  · exact h r h1
  · rw [h1]; exact hx
theorem bubD_rows : ∀ (j : Nat) (rs : List (List Int)), RowsB rs → RowsB (bubD j rs)
  | 0, _, h => h
  | j + 1, rs, h => by
    unfold bubD
    split
    · exact bubD_rows j _ (set_rows (set_rows h _ (getD_rows h _)) _ (getD_rows h _))
    · exact h
abbrev rowR (rs : List (List Int)) : Blk := .row (.recs 1 (recB rs))
set_option maxHeartbeats 4000000 in
theorem isort_ok (rs : List (List Int)) (hl : rs.length ≤ 1000) (hr : RowsB rs) :
    Ct Try.prog 122 [.c (.own 0 1 0 rs.length), lv (.int .i64 0), lv (.int .i64 (rs.length : Int)), .c (.fn (.func 64) [] [])] [rowR rs] (.tup []) [rowR (isortA 1 (rs.length - 1) rs)] [] := by
  refine Ct_intro Try.func122 rfl rfl rfl rfl rfl (fun E hn hb => ?_)
  repeat refine nx ?_
  refine W_weaken (St.le_of (l := [(0, .c (.own 0 1 0 rs.length)), (1, lv (.int .i64 0)), (2, lv (.int .i64 (rs.length : Int))), (3, .c (.fn (.func 64) [] [])), (8, lv (.int .i64 ((1 : Nat) : Int)))]) (h := [(0, rowR rs)]) (by refine ⟨?_, ?_⟩ <;> (repeat' (first | exact trivial | exact rfl | refine ⟨?_, ?_⟩)) <;> first | exact rfl | (simp; done) | skip)) ?_
  refine W_loop (ι := {x : Nat × List (List Int) // 1 ≤ x.1 ∧ (x.1 ≤ rs.length ∨ rs.length = 0) ∧ x.2.length = rs.length ∧ RowsB x.2 ∧ isortA x.1 (rs.length - x.1) x.2 = isortA 1 (rs.length - 1) rs}) (fun i => St.of [(0, .c (.own 0 1 0 rs.length)), (1, lv (.int .i64 0)), (2, lv (.int .i64 (rs.length : Int))), (3, .c (.fn (.func 64) [] [])), (8, lv (.int .i64 (i.1.1 : Int)))] [(0, rowR i.1.2)]) (fun i => rs.length - i.1.1) (fun i => ?_) ⟨(1, rs), by dsimp only; omega, by dsimp only; omega, rfl, hr, rfl⟩
  obtain ⟨⟨i, ts⟩, h0, h1, h2, h3, h4⟩ := i
  change 1 ≤ i at h0
  change i ≤ rs.length ∨ rs.length = 0 at h1
  change ts.length = rs.length at h2
  change RowsB ts at h3
  change isortA i (rs.length - i) ts = _ at h4
  dsimp only
  by_cases hi : i < rs.length
  · repeat refine nx ?_
    refine W_weaken (St.le_of (l := [(0, .c (.own 0 1 0 rs.length)), (1, lv (.int .i64 0)), (2, lv (.int .i64 (rs.length : Int))), (3, .c (.fn (.func 64) [] [])), (8, lv (.int .i64 (i : Int))), (9, lv (.int .i64 (i : Int)))]) (h := [(0, rowR ts)]) (by refine ⟨?_, ?_⟩ <;> (repeat' (first | exact trivial | exact rfl | refine ⟨?_, ?_⟩)) <;> first | exact rfl | (simp; done) | skip)) ?_
    refine W_loop (ι := {x : Nat × List (List Int) // x.1 ≤ i ∧ x.2.length = rs.length ∧ RowsB x.2 ∧ bubD x.1 x.2 = bubD i ts}) (fun k => St.of [(0, .c (.own 0 1 0 rs.length)), (1, lv (.int .i64 0)), (2, lv (.int .i64 (rs.length : Int))), (3, .c (.fn (.func 64) [] [])), (8, lv (.int .i64 (i : Int))), (9, lv (.int .i64 (k.1.1 : Int)))] [(0, rowR k.1.2)]) (fun k => k.1.1) (fun k => ?_) ⟨(i, ts), Nat.le_refl _, h2, h3, rfl⟩
    obtain ⟨⟨j, us⟩, g0, g1, g2, g3⟩ := k
    change j ≤ i at g0
    change us.length = rs.length at g1
    change RowsB us at g2
    change bubD j us = _ at g3
    dsimp only
    have hstep : isortA i (rs.length - i) ts = isortA (i + 1) (rs.length - (i + 1)) (bubD i ts) := by
      rw [show rs.length - i = (rs.length - (i + 1)) + 1 by omega, isortA]
    have hbl := bubD_len i ts
    have hbr := bubD_rows i ts h3
    cases j with
    | zero =>
      rw [bubD] at g3
      repeat refine nx ?_
      refine duh1 (hF := octcmp_ok _ _ (getD_rows g2 _) (getD_rows g2 _)) ?_
      repeat refine nx ?_
      subst g3
      rw [h4] at hstep
      refine N_round ⟨(i + 1, bubD i ts), by dsimp only; omega, by dsimp only; omega, by dsimp only; omega, hbr, hstep.symm⟩ (by dsimp only; omega) (St.le_of ⟨⟨rfl, rfl, rfl, rfl, rfl⟩, rfl⟩)
    | succ j =>
      repeat refine nx ?_
      refine duh1 (hF := octcmp_ok _ _ (getD_rows g2 _) (getD_rows g2 _)) ?_
      repeat refine nx ?_
      have e1 : 0 + ((j + 1 : Nat) : Int).toNat = j + 1 := by omega
      have e2 : 0 + (((j + 1 : Nat) : Int) - 1).toNat = j := by omega
      have e3 : ((j + 1 : Nat) : Int) - 1 = (j : Int) := by omega
      refine W_cond rfl (by simp) (fun hc => ?_) (fun hc => ?_)
      · rw [e1, e2] at hc
        have hlt : cmpL (us.getD (j + 1) []) (us.getD j []) < 0 := by
          generalize cmpL (us.getD (j + 1) []) (us.getD j []) = C at hc ⊢
          simp at hc
          omega
        rw [bubD, if_pos hlt] at g3
        repeat refine nx ?_
        refine N_round ⟨(j, (us.set (j + 1) (us.getD j [])).set j (us.getD (j + 1) [])), by dsimp only; omega, by simp [g1], set_rows (set_rows g2 _ (getD_rows g2 _)) _ (getD_rows g2 _), g3⟩ (by dsimp only; omega) (St.le_of ⟨⟨rfl, rfl, rfl, rfl, rfl, ?_⟩, ?_⟩)
        · show lv (.int .i64 (((j + 1 : Nat) : Int) - 1)) = _
          rw [e3]
        · show rowR ((us.set (0 + ((j + 1 : Nat) : Int).toNat) (us.getD (0 + (((j + 1 : Nat) : Int) - 1).toNat) [])).set (0 + (((j + 1 : Nat) : Int) - 1).toNat) (us.getD (0 + ((j + 1 : Nat) : Int).toNat) [])) = _
          rw [e1, e2]
      · rw [e1, e2] at hc
        have hlt : ¬ cmpL (us.getD (j + 1) []) (us.getD j []) < 0 := by
          generalize cmpL (us.getD (j + 1) []) (us.getD j []) = C at hc ⊢
          simp at hc
          omega
        rw [bubD, if_neg hlt] at g3
        subst g3
        rw [h4] at hstep
        repeat refine nx ?_
        refine N_round ⟨(i + 1, bubD i ts), by dsimp only; omega, by dsimp only; omega, by dsimp only; omega, hbr, hstep.symm⟩ (by dsimp only; omega) (St.le_of ⟨⟨rfl, rfl, rfl, rfl, rfl⟩, rfl⟩)
  · have : rs.length - i = 0 := by omega
    rw [this, isortA] at h4
    rw [← h4]
    repeat refine nx ?_
    exact rt1 []
end Go.Proofs.Ythoaneleeabadaa

namespace Go.Proofs.Ythoaneleeabadaa
set_option linter.unusedSimpArgs false
set_option linter.unusedVariables false
open Go.Sx

set_option maxRecDepth 10000

theorem stable_ok (rs : List (List Int)) (hl : rs.length ≤ 19) (hr : RowsB rs) :
    Ct Try.prog 104 [.c (.own 0 1 0 rs.length), lv (.int .i64 (rs.length : Int)), .c (.fn (.func 64) [] [])] [rowR rs] (.tup []) [rowR (isortA 1 (rs.length - 1) rs)] [] := by
  have h := isort_ok rs (by omega) hr
  refine Ct_intro Try.func104 rfl rfl rfl rfl rfl (fun E hn hb => ?_)
  repeat refine nx ?_
  refine W_once ?_
  repeat refine nx ?_
  refine W_once ?_
  repeat refine nx ?_
  exact rt1 []
theorem sortS_ok (rs : List (List Int)) (hl : rs.length ≤ 19) (hr : RowsB rs) :
    Ct Try.prog 73 [.c (.own 0 1 0 rs.length), .c (.fn (.func 64) [] [])] [rowR rs] (.tup []) [rowR (isortA 1 (rs.length - 1) rs)] [] := by
  have h := stable_ok rs hl hr
  refine Ct_intro Try.func73 rfl rfl rfl rfl rfl (fun E hn hb => ?_)
  repeat refine nx ?_
  exact rt1 []
theorem cloneR_ok (rs : List (List Int)) (hl : rs.length ≤ 1000) : Ct Try.prog 72 [rowsA rs] [] (.c (.own 0 1 0 rs.length)) [] [rowR rs] := by
  refine Ct_intro Try.func72 rfl rfl rfl rfl rfl (fun E hn hb => ?_)
  repeat refine nx ?_
  refine s_nilS (neg := false) rfl rfl (by rw [hn]; rfl) Try.underlying27 rfl (by simp) (by simp [szD]) (fun b hbl => ?_)
  simp [lenD] at hbl
  cases b with
  | true =>
    obtain rfl := hbl rfl
    repeat refine nx ?_
    refine N_own_nil 2 64 1 (.recs 1 []) rfl rfl (.inr (.inr ⟨_, rfl⟩)) ?_
    exact rt1 [64]
  | false =>
    repeat refine nx ?_
    refine rt2 [69] ?_ ?_
    · simp; rfl
    · simp; rfl
def isortL (rs : List (List Int)) : List (List Int) := isortA 1 (rs.length - 1) rs
theorem isortA_len : ∀ (n i : Nat) (rs : List (List Int)), (isortA i n rs).length = rs.length
  | 0, _, _ => rfl
  | n + 1, i, rs => by rw [isortA, isortA_len n, bubD_len]
theorem setOf_ok (rs : List (List Int)) (hl : rs.length ≤ 19) (hr : RowsB rs) (hf : (isortL rs).flatten.length ≤ 1000000) :
    Ct Try.prog 36 [rowsA rs] [] (.tup [B8 (wrapL (ofT 17) (isortL rs).flatten), lv (.int .i64 0)]) [] [] := by
  have h1 := cloneR_ok rs (by omega)
  have h2 := sortS_ok rs hl hr
  have hil := isortA_len (rs.length - 1) 1 rs
  have h3 := headof_ok 17
  have h4 := wrap_ok (ofT 17) (isortL rs) (by decide) (by unfold isortL; omega) hf
  change Ct Try.prog _ _ _ _ [rowR (isortL rs)] _ at h2
  change (isortL rs).length = _ at hil
  generalize isortL rs = ss at *
  generalize wrapL (ofT 17) ss.flatten = W at *
  refine Ct_intro Try.func36 rfl rfl rfl rfl rfl (fun E hn hb => ?_)
  repeat refine nx ?_
  rw [← hil]
  refine frzL 10 ?_
  repeat refine nx ?_
  exact rtU []

/-! The document's order. -/
end Go.Proofs.Ythoaneleeabadaa

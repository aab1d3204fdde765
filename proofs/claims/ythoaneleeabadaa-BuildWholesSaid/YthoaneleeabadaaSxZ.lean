/-
  From a contract to the statement's last step: what came in, as data; what the call leaves. No condition.
-/
import Derived.Test.YthoaneleeabadaaC7
import Derived.Test.YthoaneleeabadaaSxX
import Derived.WalkKit
import Derived.ProofKit
import Derived.OpenShut
import Derived.ShutString
import Derived.ChangeOld
import Derived.Below
import Derived.Lib.SmallJoins
namespace Go.Proofs.Ythoaneleeabadaa
set_option linter.unusedSimpArgs false
set_option linter.unusedVariables false
open Go.Sx

set_option maxRecDepth 10000

theorem tagP_eq (b : List Int) (p : Nat) : tagP b p = if p < b.length then
    if b.getD p 0 % 32 < 31 then ((b.getD p 0 / 64, b.getD p 0 % 32, decide (b.getD p 0 / 32 % 2 = 1)), p + 1, 0)
    else if (numP b 3 (p + 1) 0).2.2 = 0 then ((b.getD p 0 / 64, (numP b 3 (p + 1) 0).1, decide (b.getD p 0 / 32 % 2 = 1)), (numP b 3 (p + 1) 0).2.1, 0) else (tag0, p, (numP b 3 (p + 1) 0).2.2)
    else (tag0, p, 3) := by
  unfold tagP rawT
  split
  · have : (b.getD p 0 % 32 = 31) ↔ ¬ (b.getD p 0 % 32 < 31) := by omega
    by_cases h : b.getD p 0 % 32 < 31
    · rw [if_pos h, if_neg (by omega)]
      rfl
    · rw [if_neg h, if_pos (by omega)]
      unfold keepP
      split
      · rename_i h2
        dsimp only at h2 ⊢
        rw [h2]
      · rename_i h2
        dsimp only at h2 ⊢
  · rfl
structure RS where
  i : Nat
  n : Int
def RS.ok (l : List Int) (p : Nat) (s : RS) : Prop := s.i ≤ 3 ∧ p + 1 + s.i ≤ l.length ∧ numP l (3 - s.i) (p + 1 + s.i) s.n = numP l 3 (p + 1) 0 ∧ 0 ≤ s.n ∧ (s.i = 0 ∧ s.n < 1 ∨ s.i = 1 ∧ s.n < 128 ∨ s.i = 2 ∧ s.n < 16384 ∨ s.i = 3 ∧ s.n < 2097152)
abbrev tagR (r : TagP × Nat × Int) : Av := .tup [tagA r.1, lv (.int .i64 (r.2.1 : Int)), lv (.int .i64 r.2.2)]

set_option maxHeartbeats 4000000 in
theorem reftagr_ok (l : List Int) (p : Nat) (hp : p ≤ l.length) (hl : l.length ≤ 1000000) (hw : WfB l) : Ct Try.prog 98 [B8 l, lv (.int .i64 (p : Int))] [] (tagR (tagP l p)) [] [] := by
  have hTT := tagP_eq l p
  generalize tagP l p = T at *
  refine Ct_intro Try.func98 rfl rfl rfl rfl rfl (fun E hn hb => ?_)
  repeat (first | refine stp ?_ | refine N_block_pass rfl ?_ | refine sp1 ?_ | refine sg1 ?_ | refine WL_nil ?_)
  refine s_allocN rfl rfl rfl (by rw [hn]; rfl) rfl zok29 ?_
  repeat (first | refine stp ?_ | refine N_block_pass rfl ?_ | refine sp1 ?_ | refine sg1 ?_ | refine WL_nil ?_)
  refine W_cond rfl (by simp) (fun h1 => ?_) (fun h1 => ?_)
  · have h1' : ¬ p < l.length := by simp at h1; omega
    rw [if_neg h1'] at hTT
    subst hTT
    repeat (first | refine stp ?_ | refine N_block_pass rfl ?_ | refine sp1 ?_ | refine sg1 ?_ | refine WL_nil ?_)
    refine s_storeN rfl rfl rfl rfl rfl (by first | trivial | (simp; done) | (simp; omega) | (simp at *; done) | (simp at *; omega)) rfl rfl rfl (by rw [cellsOf29]; rfl) (by rw [info29]; rfl) rfl rfl ?_
    repeat (first | refine stp ?_ | refine N_block_pass rfl ?_ | refine sp1 ?_ | refine sg1 ?_ | refine WL_nil ?_)
    exact rt1 []
  have h1' : p < l.length := by simp at h1; omega
  rw [if_pos h1'] at hTT
  have hd := getD_wf hw p
  repeat (first | refine stp ?_ | refine N_block_pass rfl ?_ | refine sp1 ?_ | refine sg1 ?_ | refine WL_nil ?_)
  rw [Int.toNat_natCast]
  generalize hdd : l.getD p 0 = d at *
  repeat (first | refine stp ?_ | refine N_block_pass rfl ?_ | refine sp1 ?_ | refine sg1 ?_ | refine WL_nil ?_)
  refine s_allocN rfl rfl rfl (by rw [hn]; rfl) rfl zok29 ?_
  repeat (first | refine stp ?_ | refine N_block_pass rfl ?_ | refine sp1 ?_ | refine sg1 ?_ | refine WL_nil ?_)
  refine s_storeN rfl rfl rfl rfl rfl (by first | trivial | (simp; done) | (simp; omega) | (simp at *; done) | (simp at *; omega)) rfl rfl rfl (by rw [cellsOf29]; rfl) (by rw [info29]; rfl) rfl rfl ?_
  repeat (first | refine stp ?_ | refine N_block_pass rfl ?_ | refine sp1 ?_ | refine sg1 ?_ | refine WL_nil ?_)
  rw [show (d / 32 % 2 == 1) = decide (d / 32 % 2 = 1) from by by_cases h : d / 32 % 2 = 1 <;> simp [h]]
  generalize decide (d / 32 % 2 = 1) = mk at *
  refine W_cond rfl (by simp) (fun h2 => ?_) (fun h2 => ?_)
  · have h2' : d % 32 < 31 := by simpa using h2
    rw [if_pos h2'] at hTT
    subst hTT
    repeat (first | refine stp ?_ | refine N_block_pass rfl ?_ | refine sp1 ?_ | refine sg1 ?_ | refine WL_nil ?_)
    refine s_storeN rfl rfl rfl rfl rfl (by first | trivial | (simp; done) | (simp; omega) | (simp at *; done) | (simp at *; omega)) rfl rfl rfl (by rw [cellsOf29]; rfl) (by rw [info29]; rfl) rfl rfl ?_
    repeat (first | refine stp ?_ | refine N_block_pass rfl ?_ | refine sp1 ?_ | refine sg1 ?_ | refine WL_nil ?_)
    exact rt1 []
  have h2' : ¬ d % 32 < 31 := by simpa using h2
  rw [if_neg h2'] at hTT
  have h0 : RS.ok l p ⟨0, 0⟩ := ⟨by simp, by dsimp only; omega, rfl, by simp, by simp⟩
  repeat (first | refine stp ?_ | refine N_block_pass rfl ?_ | refine sp1 ?_ | refine sg1 ?_ | refine WL_nil ?_)
  refine W_weaken (St.le_of (l := [(0, B8 l), (1, lv (.int .i64 (p : Int))), (4, .c (.ptr 68 0)), (8, .c (.ptr 72 0)), (9, lv (.int .i64 0)), (10, lv (.int .i64 1))]) (h := [(68, .cells [.lf (.v (.int .i64 0)), .lf (.v (.int .i64 0)), .lf (.v (.bool false))]), (72, .cells [.lf (.v (.int .i64 (d / 64))), .lf (.v (.int .i64 (d % 32))), .lf (.v (.bool mk))])]) (by refine ⟨?_, ?_⟩ <;> (repeat' (first | exact trivial | exact rfl | refine ⟨?_, ?_⟩)) <;> first | exact rfl | (simp; done) | skip)) ?_
  refine W_loop (ι := {s : RS // s.ok l p}) (fun s => St.of [(0, B8 l), (1, lv (.int .i64 (p : Int))), (4, .c (.ptr 68 0)), (8, .c (.ptr 72 0)), (9, lv (.int .i64 s.1.n)), (10, lv (.int .i64 ((s.1.i : Int) + 1)))] [(68, .cells [.lf (.v (.int .i64 0)), .lf (.v (.int .i64 0)), .lf (.v (.bool false))]), (72, .cells [.lf (.v (.int .i64 (d / 64))), .lf (.v (.int .i64 (d % 32))), .lf (.v (.bool mk))])]) (fun s => 3 - s.1.i) (fun s => ?_) ⟨⟨0, 0⟩, h0⟩
  obtain ⟨⟨i, n⟩, hi, hq, hR, hn0, hn1⟩ := s
  dsimp only at hi hq hR hn0 hn1 ⊢
  generalize hRR : numP l 3 (p + 1) 0 = R at hR hTT ⊢
  clear hdd hd
  repeat (first | refine stp ?_ | refine N_block_pass rfl ?_ | refine sp1 ?_ | refine sg1 ?_ | refine WL_nil ?_)
  refine W_cond rfl (by simp) (fun h3 => ?_) (fun h3 => ?_)
  · have h3' : ¬ p + 1 + i < l.length := by simp at h3; omega
    rw [numP_end l _ _ _ h3'] at hR
    subst hR
    subst hTT
    repeat (first | refine stp ?_ | refine N_block_pass rfl ?_ | refine sp1 ?_ | refine sg1 ?_ | refine WL_nil ?_)
    refine s_storeN rfl rfl rfl rfl rfl (by first | trivial | (simp; done) | (simp; omega) | (simp at *; done) | (simp at *; omega)) rfl rfl rfl (by rw [cellsOf29]; rfl) (by rw [info29]; rfl) rfl rfl ?_
    repeat (first | refine stp ?_ | refine N_block_pass rfl ?_ | refine sp1 ?_ | refine sg1 ?_ | refine WL_nil ?_)
    exact rt1 []
  have h3' : p + 1 + i < l.length := by simp at h3; omega
  have hd := getD_wf hw (p + 1 + i)
  have eg : l.getD ((p : Int) + ((i : Int) + 1)).toNat 0 = l.getD (p + 1 + i) 0 := by
    rw [show ((p : Int) + ((i : Int) + 1)).toNat = p + 1 + i by omega]
  repeat (first | refine stp ?_ | refine N_block_pass rfl ?_ | refine sp1 ?_ | refine sg1 ?_ | refine WL_nil ?_)
  rw [eg]
  generalize hdd : l.getD (p + 1 + i) 0 = x at *
  repeat (first | refine stp ?_ | refine N_block_pass rfl ?_ | refine sp1 ?_ | refine sg1 ?_ | refine WL_nil ?_)
  have ec : (cond (cond ((i : Int) + 1 == 1) (x == 128) false) true ((i : Int) + 1 == 4)) = decide ((i = 0 ∧ x = 128) ∨ i = 3) := by
    by_cases h4 : i = 0
    · subst h4
      by_cases h5 : x = 128 <;> simp [h5]
    · have h6 : ¬ ((i : Int) + 1 = 1) := by omega
      by_cases h7 : i = 3
      · subst h7; simp
      · have h8 : ¬ ((i : Int) + 1 = 4) := by omega
        have h9 : ((i : Int) + 1 == 1) = false := by simpa using h6
        have h10 : ((i : Int) + 1 == 4) = false := by simpa using h8
        rw [h9, h10]
        simp [h4, h7]
  rw [ec]
  refine W_cond rfl (by simp) (fun h4 => ?_) (fun h4 => ?_)
  · have h4' : (i = 0 ∧ x = 128) ∨ i = 3 := by simpa using h4
    have eR : R = (0, p + 1 + i + 1, 4) := by
      by_cases h5 : i = 3
      · subst h5
        simp only [Nat.sub_self, numP, h3', if_true] at hR
        exact hR.symm
      · have h6 : i = 0 ∧ x = 128 := h4'.resolve_right h5
        rw [numP_step l i _ n (by omega) h3', hdd, if_pos h6] at hR
        exact hR.symm
    rw [eR, if_neg (by simp)] at hTT
    subst hTT
    repeat (first | refine stp ?_ | refine N_block_pass rfl ?_ | refine sp1 ?_ | refine sg1 ?_ | refine WL_nil ?_)
    refine s_storeN rfl rfl rfl rfl rfl (by first | trivial | (simp; done) | (simp; omega) | (simp at *; done) | (simp at *; omega)) rfl rfl rfl (by rw [cellsOf29]; rfl) (by rw [info29]; rfl) rfl rfl ?_
    repeat (first | refine stp ?_ | refine N_block_pass rfl ?_ | refine sp1 ?_ | refine sg1 ?_ | refine WL_nil ?_)
    exact rt1 []
  have h4' : ¬ ((i = 0 ∧ x = 128) ∨ i = 3) := by simpa using h4
  have hi3 : i < 3 := by omega
  rw [numP_step l i _ n hi3 h3', hdd, if_neg (fun h => h4' (.inl h))] at hR
  clear h4 ec
  repeat (first | refine stp ?_ | refine N_block_pass rfl ?_ | refine sp1 ?_ | refine sg1 ?_ | refine WL_nil ?_)
  generalize hmm : 128 * n + x % 128 = m at *
  refine W_cond rfl (by simp) (fun h5 => ?_) (fun h5 => ?_)
  · have h5' : x < 128 := by simpa using h5
    rw [if_pos h5'] at hR
    repeat (first | refine stp ?_ | refine N_block_pass rfl ?_ | refine sp1 ?_ | refine sg1 ?_ | refine WL_nil ?_)
    refine W_cond rfl (by simp) (fun h6 => ?_) (fun h6 => ?_)
    · have h6' : m < 31 := by simpa using h6
      rw [if_pos h6'] at hR
      rw [← hR, if_neg (by simp)] at hTT
      subst hTT
      repeat (first | refine stp ?_ | refine N_block_pass rfl ?_ | refine sp1 ?_ | refine sg1 ?_ | refine WL_nil ?_)
      refine s_storeN rfl rfl rfl rfl rfl (by first | trivial | (simp; done) | (simp; omega) | (simp at *; done) | (simp at *; omega)) rfl rfl rfl (by rw [cellsOf29]; rfl) (by rw [info29]; rfl) rfl rfl ?_
      repeat (first | refine stp ?_ | refine N_block_pass rfl ?_ | refine sp1 ?_ | refine sg1 ?_ | refine WL_nil ?_)
      exact rt1 []
    · have h6' : ¬ m < 31 := by simpa using h6
      rw [if_neg h6'] at hR
      rw [← hR, if_pos rfl] at hTT
      subst hTT
      repeat (first | refine stp ?_ | refine N_block_pass rfl ?_ | refine sp1 ?_ | refine sg1 ?_ | refine WL_nil ?_)
      refine s_storeN rfl rfl rfl rfl rfl (by first | trivial | (simp; done) | (simp; omega) | (simp at *; done) | (simp at *; omega)) rfl rfl rfl (by rw [cellsOf3]; rfl) (by rw [info3]; rfl) rfl rfl ?_
      repeat (first | refine stp ?_ | refine N_block_pass rfl ?_ | refine sp1 ?_ | refine sg1 ?_ | refine WL_nil ?_)
      refine s_storeN rfl rfl rfl rfl rfl (by first | trivial | (simp; done) | (simp; omega) | (simp at *; done) | (simp at *; omega)) rfl rfl rfl (by rw [cellsOf29]; rfl) (by rw [info29]; rfl) rfl rfl ?_
      repeat (first | refine stp ?_ | refine N_block_pass rfl ?_ | refine sp1 ?_ | refine sg1 ?_ | refine WL_nil ?_)
      refine rt2 [] ?_ ?_
      · show Av.tup [_, lv (.int .i64 ((p : Int) + ((i : Int) + 1) + 1)), _] = _
        rw [show (p : Int) + ((i : Int) + 1) + 1 = ((p + 1 + i + 1 : Nat) : Int) by omega]
        rfl
      · trivial
  · have h5' : ¬ x < 128 := by simpa using h5
    rw [if_neg h5'] at hR
    repeat (first | refine stp ?_ | refine N_block_pass rfl ?_ | refine sp1 ?_ | refine sg1 ?_ | refine WL_nil ?_)
    refine N_round ⟨⟨i + 1, m⟩, ⟨by dsimp only; omega, by dsimp only; omega, hR.trans hRR.symm, by dsimp only; omega, by dsimp only; omega⟩⟩ (by dsimp only; omega) (St.le_of ⟨⟨rfl, rfl, rfl, rfl, rfl, rfl⟩, ⟨rfl, rfl⟩⟩)
end Go.Proofs.Ythoaneleeabadaa

namespace Go.Proofs.Ythoaneleeabadaa
set_option linter.unusedSimpArgs false
set_option linter.unusedVariables false
open Go.Sx

set_option maxRecDepth 10000

theorem lenP_eq (b : List Int) (p : Nat) : lenP b p = if p < b.length then
    if b.getD p 0 < 128 then (b.getD p 0, p + 1, 0)
    else if b.getD p 0 = 128 ∨ 132 < b.getD p 0 then (0, p, 5)
    else if b.length < p + 1 + (b.getD p 0 % 128).toNat then (0, p, 3)
    else if b.getD (p + 1) 0 = 0 ∨ valA 0 ((b.drop (p + 1)).take (b.getD p 0 % 128).toNat) < 128 then (0, p, 5)
    else if 16777216 < valA 0 ((b.drop (p + 1)).take (b.getD p 0 % 128).toNat) then (0, p, 2)
    else (valA 0 ((b.drop (p + 1)).take (b.getD p 0 % 128).toNat), p + 1 + (b.getD p 0 % 128).toNat, 0)
    else (0, p, 3) := by
  unfold lenP rawL longP
  repeat' split
  all_goals rfl

set_option maxHeartbeats 4000000 in
theorem reflen_ok (l : List Int) (p : Nat) (hp : p ≤ l.length) (hl : l.length ≤ 1000000) (hw : WfB l) : Ct Try.prog 99 [B8 l, lv (.int .i64 (p : Int))] [] (.tup [lv (.int .i64 (lenP l p).1), lv (.int .i64 ((lenP l p).2.1 : Int)), lv (.int .i64 (lenP l p).2.2)]) [] [] := by
  have hTT := lenP_eq l p
  generalize lenP l p = T at *
  refine Ct_intro Try.func99 rfl rfl rfl rfl rfl (fun E hn hb => ?_)
  repeat (first | refine stp ?_ | refine N_block_pass rfl ?_ | refine sp1 ?_ | refine sg1 ?_ | refine WL_nil ?_)
  refine W_cond rfl (by simp) (fun h1 => ?_) (fun h1 => ?_)
  · have h1' : ¬ p < l.length := by simp at h1; omega
    rw [if_neg h1'] at hTT
    subst hTT
    repeat (first | refine stp ?_ | refine N_block_pass rfl ?_ | refine sp1 ?_ | refine sg1 ?_ | refine WL_nil ?_)
    exact rt1 []
  have h1' : p < l.length := by simp at h1; omega
  rw [if_pos h1'] at hTT
  have hd := getD_wf hw p
  repeat (first | refine stp ?_ | refine N_block_pass rfl ?_ | refine sp1 ?_ | refine sg1 ?_ | refine WL_nil ?_)
  rw [Int.toNat_natCast]
  generalize hdd : l.getD p 0 = d at *
  repeat (first | refine stp ?_ | refine N_block_pass rfl ?_ | refine sp1 ?_ | refine sg1 ?_ | refine WL_nil ?_)
  refine W_cond rfl (by simp) (fun h2 => ?_) (fun h2 => ?_)
  · have h2' : d < 128 := by simpa using h2
    rw [if_pos h2'] at hTT
    subst hTT
    repeat (first | refine stp ?_ | refine N_block_pass rfl ?_ | refine sp1 ?_ | refine sg1 ?_ | refine WL_nil ?_)
    exact rt1 []
  have h2' : ¬ d < 128 := by simpa using h2
  rw [if_neg h2'] at hTT
  repeat (first | refine stp ?_ | refine N_block_pass rfl ?_ | refine sp1 ?_ | refine sg1 ?_ | refine WL_nil ?_)
  refine W_cond rfl (by simp) (fun h3 => ?_) (fun h3 => ?_)
  · have h3' : d = 128 ∨ 132 < d := by
      by_cases hz : d = 128
      · exact .inl hz
      · simp [hz] at h3; exact .inr h3
    rw [if_pos h3'] at hTT
    subst hTT
    repeat (first | refine stp ?_ | refine N_block_pass rfl ?_ | refine sp1 ?_ | refine sg1 ?_ | refine WL_nil ?_)
    exact rt1 []
  have h3' : ¬ (d = 128 ∨ 132 < d) := by
    rintro (rfl | h)
    · simp at h3
    · simp [h] at h3
  rw [if_neg h3'] at hTT
  obtain ⟨n, hn'⟩ : ∃ n : Nat, d = ((n + 128 : Nat) : Int) := ⟨(d - 128).toNat, by omega⟩
  have en : (d % 128).toNat = n := by omega
  rw [en] at hTT
  clear en h3 h2
  subst hn'
  repeat (first | refine stp ?_ | refine N_block_pass rfl ?_ | refine sp1 ?_ | refine sg1 ?_ | refine WL_nil ?_)
  refine W_cond rfl (by simp) (fun h4 => ?_) (fun h4 => ?_)
  · have h4' : l.length < p + 1 + n := by simp at h4; omega
    rw [if_pos h4'] at hTT
    subst hTT
    repeat (first | refine stp ?_ | refine N_block_pass rfl ?_ | refine sp1 ?_ | refine sg1 ?_ | refine WL_nil ?_)
    exact rt1 []
  have h4' : ¬ l.length < p + 1 + n := by simp at h4; omega
  rw [if_neg h4'] at hTT
  have hxl : ((l.drop (p + 1)).take n).length = n := by simp; omega
  have hxg : ∀ i, i < n → l.getD (p + 1 + i) 0 = ((l.drop (p + 1)).take n).getD i 0 := fun i hi => by
    simp only [List.getD_eq_getElem?_getD, List.getElem?_take, List.getElem?_drop]
    rw [if_pos (by omega)]
  have hxw : WfB ((l.drop (p + 1)).take n) := fun x hx => hw x (List.mem_of_mem_drop (List.mem_of_mem_take hx))
  generalize (l.drop (p + 1)).take n = x at *
  repeat (first | refine stp ?_ | refine N_block_pass rfl ?_ | refine sp1 ?_ | refine sg1 ?_ | refine WL_nil ?_)
  rw [show (((n + 128 : Nat) : Int) - 128) = (n : Int) by omega]
  refine W_weaken (St.le_of (l := [(0, B8 l), (1, lv (.int .i64 (p : Int))), (8, lv (.int .i64 (n : Int))), (9, lv (.int .i64 (valA 0 (x.take 0)))), (10, lv (.int .i64 (((0 : Nat) : Int) + 1)))]) (h := []) (by refine ⟨?_, ?_⟩ <;> (repeat' (first | exact trivial | exact rfl | refine ⟨?_, ?_⟩)) <;> first | exact rfl | (simp; done) | skip)) ?_
  refine W_loop (ι := {i : Nat // i ≤ n}) (fun i => St.of [(0, B8 l), (1, lv (.int .i64 (p : Int))), (8, lv (.int .i64 (n : Int))), (9, lv (.int .i64 (valA 0 (x.take i.1)))), (10, lv (.int .i64 ((i.1 : Int) + 1)))] []) (fun i => n - i.1) (fun i => ?_) ⟨0, by omega⟩
  obtain ⟨i, hi⟩ := i
  dsimp only
  have hwt : WfB (x.take i) := wf_take hxw i
  have hv0 := val_nonneg (x.take i) 0 (by decide) hwt
  have hv1 : valA 0 (x.take i) < 256 ^ 4 := val_lt (x.take i) 4 (by simp; omega) hwt
  repeat (first | refine stp ?_ | refine N_block_pass rfl ?_ | refine sp1 ?_ | refine sg1 ?_ | refine WL_nil ?_)
  refine W_cond rfl (by simp) (fun hc => ?_) (fun hc => ?_)
  · have hi8 : i < n := by simp at hc; omega
    have hx := hxw x[i] (List.getElem_mem (by omega))
    have hT : x.take (i + 1) = x.take i ++ [x[i]] := by rw [List.take_add_one, List.getElem?_eq_getElem (by omega)]; rfl
    have hg : l.getD ((p : Int) + ((i : Int) + 1)).toNat 0 = x[i] := by
      rw [show ((p : Int) + ((i : Int) + 1)).toNat = p + 1 + i by omega, hxg i hi8]
      simp [show i < x.length by omega]
    have hvs := val_snoc (x.take i) x[i]
    rw [← hT] at hvs
    generalize valA 0 (x.take i) = v at *
    have hv2 : v < 4294967296 := by omega
    clear hv1
    repeat (first | refine stp ?_ | refine N_block_pass rfl ?_ | refine sp1 ?_ | refine sg1 ?_ | refine WL_nil ?_)
    rw [hg]
    repeat (first | refine stp ?_ | refine N_block_pass rfl ?_ | refine sp1 ?_ | refine sg1 ?_ | refine WL_nil ?_)
    refine N_round ⟨i + 1, by omega⟩ (by dsimp only; omega) (St.le_of ⟨⟨rfl, rfl, rfl, ?_, rfl⟩, trivial⟩)
    show lv (.int .i64 (256 * v + x[i])) = lv (.int .i64 (valA 0 (x.take (i + 1))))
    rw [hvs]
  · have : i = n := by simp at hc; omega
    subst this
    rw [List.take_of_length_le (by omega)] at *
    generalize valA 0 x = v at *
    repeat (first | refine stp ?_ | refine N_block_pass rfl ?_ | refine sp1 ?_ | refine sg1 ?_ | refine WL_nil ?_)
    rw [show ((p : Int) + 1).toNat = p + 1 by omega]
    generalize l.getD (p + 1) 0 = z at *
    refine W_cond rfl (by simp) (fun h2 => ?_) (fun h2 => ?_)
    · have h2' : z = 0 ∨ v < 128 := by
        by_cases hz : z = 0
        · exact .inl hz
        · simp [hz] at h2; exact .inr h2
      rw [if_pos h2'] at hTT
      subst hTT
      repeat (first | refine stp ?_ | refine N_block_pass rfl ?_ | refine sp1 ?_ | refine sg1 ?_ | refine WL_nil ?_)
      exact rt1 []
    · have h2' : ¬ (z = 0 ∨ v < 128) := by
        rintro (rfl | h)
        · simp at h2
        · simp [h] at h2
      rw [if_neg h2'] at hTT
      repeat (first | refine stp ?_ | refine N_block_pass rfl ?_ | refine sp1 ?_ | refine sg1 ?_ | refine WL_nil ?_)
      refine W_cond rfl (by simp) (fun h3 => ?_) (fun h3 => ?_)
      · have h3' : 16777216 < v := by simpa using h3
        rw [if_pos h3'] at hTT
        subst hTT
        repeat (first | refine stp ?_ | refine N_block_pass rfl ?_ | refine sp1 ?_ | refine sg1 ?_ | refine WL_nil ?_)
        exact rt1 []
      · have h3' : ¬ 16777216 < v := by simpa using h3
        rw [if_neg h3'] at hTT
        subst hTT
        repeat (first | refine stp ?_ | refine N_block_pass rfl ?_ | refine sp1 ?_ | refine sg1 ?_ | refine WL_nil ?_)
        refine rt2 [] ?_ ?_
        · show Av.tup [_, lv (.int .i64 ((p : Int) + (i : Int) + 1)), _] = _
          rw [show (p : Int) + (i : Int) + 1 = ((p + 1 + i : Nat) : Int) by omega]
          rfl
        · trivial
end Go.Proofs.Ythoaneleeabadaa

namespace Go.Proofs.Ythoaneleeabadaa
set_option linter.unusedSimpArgs false
set_option linter.unusedVariables false
open Go.Sx

set_option maxRecDepth 10000

theorem readP_eq (b : List Int) (p : Nat) : readP b p = if (tagP b p).2.2 = 0 then
    if (lenP b (tagP b p).2.1).2.2 = 0 then (((tagP b p).1, (lenP b (tagP b p).2.1).1), (lenP b (tagP b p).2.1).2.1, 0) else ((tag0, 0), p, (lenP b (tagP b p).2.1).2.2)
    else ((tag0, 0), p, (tagP b p).2.2) := by
  unfold readP rawF keepP
  by_cases h1 : (tagP b p).2.2 = 0
  · rw [if_pos h1, if_pos h1]
    by_cases h2 : (lenP b (tagP b p).2.1).2.2 = 0
    · rw [if_pos h2, if_pos h2, h2]
    · rw [if_neg h2, if_neg h2]
  · rw [if_neg h1, if_neg h1, if_neg h1]
abbrev frR (r : (TagP × Int) × Nat × Int) : Av := .tup [tagA r.1.1, lv (.int .i64 r.1.2), lv (.int .i64 (r.2.1 : Int)), lv (.int .i64 r.2.2)]
theorem refread_ok (l : List Int) (p : Nat) (hp : p ≤ l.length) (hl : l.length ≤ 1000000) (hw : WfB l) : Ct Try.prog 67 [B8 l, lv (.int .i64 (p : Int))] [] (frR (readP l p)) [] [] := by
  have hTT := readP_eq l p
  have ht := reftagr_ok l p hp hl hw
  have hnl := reflen_ok l (tagP l p).2.1 (tagP_le l p hp).2 hl hw
  generalize readP l p = R at *
  generalize tagP l p = T at *
  generalize lenP l T.2.1 = N at *
  refine Ct_intro Try.func67 rfl rfl rfl rfl rfl (fun E hn hb => ?_)
  repeat (first | refine stp ?_ | refine N_block_pass rfl ?_ | refine sp1 ?_ | refine sg1 ?_ | refine WL_nil ?_)
  refine s_allocN rfl rfl rfl (by rw [hn]; rfl) rfl zok29 ?_
  repeat (first | refine stp ?_ | refine N_block_pass rfl ?_ | refine sp1 ?_ | refine sg1 ?_ | refine WL_nil ?_)
  refine s_call0 (ht) rfl rfl rfl (by rw [hn]; rfl) rfl rfl (by first | trivial | (simp; done) | (simp; omega) | (simp at *; done) | (simp at *; omega)) rfl rfl rfl ?_
  repeat (first | refine stp ?_ | refine N_block_pass rfl ?_ | refine sp1 ?_ | refine sg1 ?_ | refine WL_nil ?_)
  refine s_allocN rfl rfl rfl (by rw [hn]; rfl) rfl zok29 ?_
  repeat (first | refine stp ?_ | refine N_block_pass rfl ?_ | refine sp1 ?_ | refine sg1 ?_ | refine WL_nil ?_)
  refine s_storeN rfl rfl rfl rfl rfl (by first | trivial | (simp; done) | (simp; omega) | (simp at *; done) | (simp at *; omega)) rfl rfl rfl (by rw [cellsOf29]; rfl) (by rw [info29]; rfl) rfl rfl ?_
  repeat (first | refine stp ?_ | refine N_block_pass rfl ?_ | refine sp1 ?_ | refine sg1 ?_ | refine WL_nil ?_)
  refine W_cond rfl (by simp) (fun h1 => ?_) (fun h1 => ?_)
  · have h1' : ¬ T.2.2 = 0 := by simpa using h1
    rw [if_neg h1'] at hTT
    subst hTT
    repeat (first | refine stp ?_ | refine N_block_pass rfl ?_ | refine sp1 ?_ | refine sg1 ?_ | refine WL_nil ?_)
    refine s_storeN rfl rfl rfl rfl rfl (by first | trivial | (simp; done) | (simp; omega) | (simp at *; done) | (simp at *; omega)) rfl rfl rfl (by rw [cellsOf29]; rfl) (by rw [info29]; rfl) rfl rfl ?_
    repeat (first | refine stp ?_ | refine N_block_pass rfl ?_ | refine sp1 ?_ | refine sg1 ?_ | refine WL_nil ?_)
    exact rt1 []
  have h1' : T.2.2 = 0 := by simpa using h1
  rw [if_pos h1'] at hTT
  repeat (first | refine stp ?_ | refine N_block_pass rfl ?_ | refine sp1 ?_ | refine sg1 ?_ | refine WL_nil ?_)
  refine s_call0 (hnl) rfl rfl rfl (by rw [hn]; rfl) rfl rfl (by first | trivial | (simp; done) | (simp; omega) | (simp at *; done) | (simp at *; omega)) rfl rfl rfl ?_
  repeat (first | refine stp ?_ | refine N_block_pass rfl ?_ | refine sp1 ?_ | refine sg1 ?_ | refine WL_nil ?_)
  refine W_cond rfl (by simp) (fun h2 => ?_) (fun h2 => ?_)
  · have h2' : ¬ N.2.2 = 0 := by simpa using h2
    rw [if_neg h2'] at hTT
    subst hTT
    repeat (first | refine stp ?_ | refine N_block_pass rfl ?_ | refine sp1 ?_ | refine sg1 ?_ | refine WL_nil ?_)
    refine s_storeN rfl rfl rfl rfl rfl (by first | trivial | (simp; done) | (simp; omega) | (simp at *; done) | (simp at *; omega)) rfl rfl rfl (by rw [cellsOf29]; rfl) (by rw [info29]; rfl) rfl rfl ?_
    repeat (first | refine stp ?_ | refine N_block_pass rfl ?_ | refine sp1 ?_ | refine sg1 ?_ | refine WL_nil ?_)
    exact rt1 []
  have h2' : N.2.2 = 0 := by simpa using h2
  rw [if_pos h2'] at hTT
  subst hTT
  repeat (first | refine stp ?_ | refine N_block_pass rfl ?_ | refine sp1 ?_ | refine sg1 ?_ | refine WL_nil ?_)
  refine s_storeN rfl rfl rfl rfl rfl (by first | trivial | (simp; done) | (simp; omega) | (simp at *; done) | (simp at *; omega)) rfl rfl rfl (by rw [cellsOf29]; rfl) (by rw [info29]; rfl) rfl rfl ?_
  repeat (first | refine stp ?_ | refine N_block_pass rfl ?_ | refine sp1 ?_ | refine sg1 ?_ | refine WL_nil ?_)
  exact rt1 []
end Go.Proofs.Ythoaneleeabadaa

namespace Go.Sx
open Go
open Go.ChangeShapes Go.WideShapes Go.ChangeAt Go.RowKit Go.Joins Go.Deep
set_option linter.unusedVariables false

/-- All that was there. -/
abbrev Was (w : World) : Nat → Prop := fun b => b < w.heap.size

theorem cell_in {w : World} {a : Addr} {v : Value} (h : w.cell? a = some v) : a.block < w.heap.size ∧ a.spot = none := by
  unfold World.cell? at h
  split at h
  · rename_i c e m hb
    refine ⟨(Array.getElem?_eq_some_iff.1 hb).1, ?_⟩
    split at h
    · cases h
    · rename_i hs; simpa using hs
  · cases h

section
variable {H : Type} {enc : TypeId × Value → H} {P : Program} {w : World} {base : Nat} {spare : Nat → Bool} {held : Bool} {fuel : Nat}

theorem open_row {t e : TypeId} {k : IntKind} {v : Value} {x : DataW H × List MemPlace} (ht : P.underlying t = some (.slice e)) (he : P.underlying e = some (.int k)) (hc : P.cellsOf e = 1)
    (h : DataW.trod enc P w base spare held fuel t [v] = some x) : ∃ l : List Int, l.length ≤ 9223372036854775807 ∧ (∀ n ∈ l, (Lit.int k n).wf = true) ∧ LfR (Was w) w (.ints k l) v := by
  rcases open_ints ht he hc h with ⟨hcs, _⟩ | ⟨a, len, cap, zs, hcs, _, hl, hm, hz, _, hcell, hw⟩
  · simp at hcs
    subst hcs
    refine ⟨[], Nat.zero_le _, ?_, LfR.ints _ _ _ _ _ rfl (Nat.le_refl _) (Nat.zero_le _) (fun h => absurd rfl h)⟩
    intro n hn
    cases hn
  · simp at hcs
    subst hcs
    have hlz : len ≤ zs.length := by rw [hz]; split <;> omega
    have hlt : (zs.take len).length = len := by simp; omega
    have hm' : cap ≤ 9223372036854775807 := hm
    refine ⟨zs.take len, by omega, fun n hn => hw n (List.mem_of_mem_take hn), LfR.ints _ _ _ _ _ hlt.symm hl hm fun hne => ?_⟩
    have h0 : 0 < len := by
      rcases Nat.eq_zero_or_pos len with h | h
      · subst h; simp at hne
      · exact h
    have hb := cell_in (hcell 0 (by omega))
    obtain ⟨b, o, sp⟩ := a
    simp only [Addr.add, if_true] at hb
    obtain ⟨hb1, hsp⟩ := hb
    subst hsp
    have hadd : ∀ i, (⟨b, o, none⟩ : Addr).add i = ⟨b, o + i, none⟩ := by
      intro i
      unfold Addr.add
      split
      · rename_i h; subst h; rfl
      · rfl
    refine ⟨b, o, rfl, hb1, fun i x hx => ?_⟩
    obtain ⟨hi, hxe⟩ := List.getElem?_eq_some_iff.1 hx
    rw [hlt] at hi
    have := hcell i (by omega)
    rw [hadd] at this
    rw [this]
    rw [List.getElem_take] at hxe
    rw [← hxe]
    simp [show i < zs.length by omega]
theorem wf_u8 {n : Int} (h : (Lit.int .u8 n).wf = true) : 0 ≤ n ∧ n < 256 := by
  simp only [Lit.wf, Bool.and_eq_true, decide_eq_true_eq] at h
  have h1 : IntKind.u8.min = 0 := by decide
  have h2 : IntKind.u8.max = 255 := by decide
  omega
/-- Bytes that came in. -/
theorem open_bytes {t e : TypeId} {v : Value} {d : DataW H} {p : List MemPlace} (ht : P.underlying t = some (.slice e)) (he : P.underlying e = some (.int .u8)) (hc : P.cellsOf e = 1) {r : Reach} {b0 : Nat} (hv : Value.okWide P w r b0 t v)
    (h : DataW.Trod enc P w base spare held t v d p) : ∃ l : List Int, l.length ≤ 9223372036854775807 ∧ (∀ n ∈ l, 0 ≤ n ∧ n < 256) ∧ ∀ β, AvR β (Was w) w (.c (.lf (.ints .u8 l))) v := by
  obtain ⟨a, n, c, rfl⟩ := okWide_slice ht hv
  obtain ⟨fuel, h⟩ := h
  simp only [Value.cells] at h
  obtain ⟨l, h1, h2, h3⟩ := open_row ht he hc h
  exact ⟨l, h1, fun n hn => wf_u8 (h2 n hn), fun β => .c (.lf h3)⟩
theorem open_int {t : TypeId} {v : Value} {k : IntKind} {d : DataW H} {p : List MemPlace} (ht : P.underlying t = some (.int k)) {r : Reach} {b0 : Nat} (hv : Value.okWide P w r b0 t v) (h : DataW.Trod enc P w base spare held t v d p) :
    ∃ n : Int, (Lit.int k n).wf = true ∧ ∀ β, AvR β (Was w) w (.c (.lf (.v (.int k n)))) v := by
  obtain ⟨n0, rfl⟩ := okWide_int ht hv
  obtain ⟨fuel, h⟩ := h
  obtain ⟨n, hn, _, hw⟩ := DataW.trod_int ht h
  simp [Value.cells] at hn
  subst hn
  exact ⟨_, hw, fun β => .c (.lf (.v _ rfl))⟩
theorem Ct.calls {f : FuncId} {args : List Av} (h : Ct P f args [] (.c (.lf (.v (.bool true)))) [] []) (w : World) (vs : List Value) (hl : vs.length = args.length) (ha : ∀ (i : Nat) (x : Av) (v : Value), args[i]? = some x → vs[i]? = some v → AvR (fun _ => none) (Was w) w x v) :
    Calls P f vs.toArray w fun e w' => e = .returned (.bool true) ∧ Below w.heap.size w w' := by
  refine (h.2.2 w (fun _ => none) (Was w) vs hl ha (fun i b h => by simp at h) (fun i j g h => absurd h (Nat.not_lt_zero _)) (fun j g h => absurd h (Nat.not_lt_zero _)) (fun _ _ => rfl) (fun b hb => hb)).mono fun e w' hq => ?_
  obtain ⟨v, β', F', rfl, hr, _, _, ho⟩ := hq
  refine ⟨?_, ?_⟩
  · cases hr with | c hr => cases hr with | lf hr => cases hr with | v x h => rfl
  · have hk := ho.keep
    exact ⟨hk.os, hk.tape, hk.output, hk.size, fun k hk' => hk.block k hk' (by rintro ⟨i, hi, _⟩; exact absurd hi (Nat.not_lt_zero _))⟩
end
end Go.Sx

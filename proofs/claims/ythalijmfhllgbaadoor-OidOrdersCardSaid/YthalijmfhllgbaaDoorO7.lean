/-
  Chapter 04: an oid's contents. The conditions: rows of at most a million numbers.
-/
import Derived.Test.YthalijmfhllgbaaDoorO6
namespace Go.Proofs.YthalijmfhllgbaaDoor
set_option linter.unusedSimpArgs false
set_option linter.unusedVariables false
open Go.Sx

set_option maxRecDepth 10000

def arcsL (l : List Int) : List Int := l.flatMap fun x => arcL x.toNat
/-- The numbers that are written. -/
def numsL : List Int → List Int
  | a :: b :: t => (40 * a + b) :: t
  | _ => []
def contO (o : List Int) : Av := if rightO o then .tup [B8 (arcsL (numsL o)), lv (.int .i64 0)] else .tup [B8 [], lv (.int .i64 1)]
theorem arcsL_len : ∀ l : List Int, (arcsL l).length ≤ 6 * l.length
  | [] => by simp [arcsL]
  | x :: l => by
    have := arcsL_len l
    have := arcL_len x.toNat
    simp [arcsL] at *
    omega
theorem arcsL_take {l : List Int} {i : Nat} (h : i < l.length) : arcsL (l.take (i + 1)) = arcsL (l.take i) ++ arcL (l.getD i 0).toNat := by
  rw [List.take_add_one, List.getElem?_eq_getElem h, List.getD_eq_getElem?_getD, List.getElem?_eq_getElem h]
  simp only [arcsL, List.flatMap_append, Option.toList_some, List.flatMap_singleton, Option.getD_some]
/-- What Right says of the numbers. -/
theorem right_nums {o : List Int} (h : rightO o = true) : ∃ a b t, o = a :: b :: t ∧ 0 ≤ a ∧ a ≤ 2 ∧ 0 ≤ b ∧ b ≤ 2147483567 ∧ t.length ≤ 30 ∧ (∀ x ∈ t, 0 ≤ x ∧ x ≤ 2147483647) ∧ (a < 2 → b < 40) := by
  match o, h with
  | a :: b :: t, h =>
  rw [rightO_cons] at h
  by_cases h30 : 30 < t.length
  · rw [if_pos h30] at h; cases h
  rw [if_neg h30] at h
  by_cases ha : (a :: b :: t).all inR = false
  · rw [if_pos ha] at h; cases h
  rw [if_neg ha] at h
  have ha : ∀ x ∈ a :: b :: t, inR x = true := List.all_eq_true.1 (by simpa using ha)
  have hx : ∀ x ∈ a :: b :: t, 0 ≤ x ∧ x ≤ 2147483647 := fun x hx => by
    have := ha x hx
    simp [inR] at this
    exact this
  have h1 := hx a (by simp)
  have h2 := hx b (by simp)
  refine ⟨a, b, t, rfl, h1.1, ?_, h2.1, ?_, by omega, fun x hm => hx x (by simp [hm]), ?_⟩
  · by_cases e : a = 0 ∨ a = 1
    · omega
    · rw [if_neg e] at h
      by_cases e2 : a = 2
      · omega
      · rw [if_neg e2] at h; cases h
  · by_cases e : a = 0 ∨ a = 1
    · rw [if_pos e] at h; simp at h; omega
    · rw [if_neg e] at h
      by_cases e2 : a = 2
      · rw [if_pos e2] at h; simpa using h
      · rw [if_neg e2] at h; cases h
  · intro h3
    rw [if_pos (by omega)] at h
    simpa using h

theorem contO_ok (o : List Int) (hl : o.length ≤ 1000000) : Ct Tryd.prog 12 [I64 o] [] (contO o) [] [] := by
  by_cases hr : rightO o = true
  · obtain ⟨a, b, t, rfl, ha0, ha2, hb0, hb1, ht, hx, _⟩ := right_nums hr
    have hR : contO (a :: b :: t) = .tup [B8 (arcsL ((40 * a + b) :: t)), lv (.int .i64 0)] := by rw [contO, if_pos hr]; rfl
    rw [hR]
    have h1 := right_ok (a :: b :: t) hl
    rw [hr] at h1
    have h2 := numbers_ok a b t ⟨ha0, ha2⟩ ⟨hb0, by omega⟩ (by omega)
    obtain ⟨N, hN⟩ : ∃ N, (40 * a + b) :: t = N := ⟨_, rfl⟩
    have hNl : N.length ≤ 31 := by rw [← hN]; simp; omega
    have hNx : ∀ x ∈ N, 0 ≤ x ∧ x ≤ 2147483647 := by
      rw [← hN]
      intro x hm
      rcases List.mem_cons.1 hm with rfl | hm
      · omega
      · exact hx x hm
    rw [hN] at h2 ⊢
    refine Ct_intro Tryd.func12 rfl rfl rfl rfl rfl (fun E hn hb => ?_)
    repeat (first | refine stp ?_ | refine N_block_pass rfl ?_ | refine sp1 ?_ | refine sg1 ?_ | refine WL_nil ?_)
    refine s_call0 h1 rfl rfl rfl (by rw [hn]; rfl) rfl rfl (by first | trivial | (simp; done) | (simp; omega) | (simp at *; done) | (simp at *; omega)) rfl rfl rfl ?_
    repeat (first | refine stp ?_ | refine N_block_pass rfl ?_ | refine sp1 ?_ | refine sg1 ?_ | refine WL_nil ?_)
    refine W_cond rfl (by simp) (fun hc => ?_) (fun hc => ?_)
    · simp at hc
    repeat (first | refine stp ?_ | refine N_block_pass rfl ?_ | refine sp1 ?_ | refine sg1 ?_ | refine WL_nil ?_)
    refine s_allocN rfl rfl rfl (by rw [hn]; rfl) rfl zok28 ?_
    repeat (first | refine stp ?_ | refine N_block_pass rfl ?_ | refine sp1 ?_ | refine sg1 ?_ | refine WL_nil ?_)
    refine WL_sr (fun a w h => SR.cell_nil (cs := [.lf (.v (.slice none 0 0))]) (cs' := [.own 900 1 0 0]) 68 0 900 rfl rfl rfl rfl rfl h) ?_
    refine s_call0 h2 rfl rfl rfl (by rw [hn]; rfl) rfl rfl (by first | trivial | (simp; done) | (simp; omega) | (simp at *; done) | (simp at *; omega)) rfl rfl rfl ?_
    repeat (first | refine stp ?_ | refine N_block_pass rfl ?_ | refine sp1 ?_ | refine sg1 ?_ | refine WL_nil ?_)
    refine W_weaken (St.le_of (l := [(4, .c (.ptr 68 0)), (5, .c (.fn (.func 31) [] [.ptr 68 0])), (13, I64 N), (14, lv (.int .i64 (N.length : Int))), (15, lv (.int .i64 ((0 : Nat) : Int)))]) (h := [(68, .cells [.own 900 1 0 ([] : List Int).length]), (900, .row (.ints .u8 []))]) (by refine ⟨?_, ?_⟩ <;> (repeat' (first | exact trivial | exact rfl | refine ⟨?_, ?_⟩)) <;> first | exact rfl | (simp; done) | skip)) ?_
    refine W_loop (ι := {s : Nat × List Int // s.1 ≤ N.length ∧ s.2 = arcsL (N.take s.1)}) (fun s => St.of [(4, .c (.ptr 68 0)), (5, .c (.fn (.func 31) [] [.ptr 68 0])), (13, I64 N), (14, lv (.int .i64 (N.length : Int))), (15, lv (.int .i64 (s.1.1 : Int)))] [(68, .cells [.own 900 1 0 s.1.2.length]), (900, .row (.ints .u8 s.1.2))]) (fun s => N.length - s.1.1) (fun s => ?_) ⟨(0, []), by dsimp only; omega, rfl⟩
    obtain ⟨⟨i, acc⟩, hi, he⟩ := s
    dsimp only at hi he ⊢
    repeat (first | refine stp ?_ | refine N_block_pass rfl ?_ | refine sp1 ?_ | refine sg1 ?_ | refine WL_nil ?_)
    refine W_cond rfl (by simp) (fun hc => ?_) (fun hc => ?_)
    · have hi2 : i < N.length := by simpa using hc
      have hal : acc.length ≤ 1000 := by
        have := arcsL_len (N.take i)
        rw [he]
        simp at this
        omega
      have hxi : N.getD i 0 ∈ N := by rw [List.getD_eq_getElem?_getD, List.getElem?_eq_getElem hi2]; exact List.getElem_mem hi2
      have hxb := hNx _ hxi
      have hnext := arcsL_take hi2
      rw [← he] at hnext
      generalize hX : N.getD i 0 = X at *
      obtain ⟨x, rfl⟩ : ∃ x : Nat, X = x := ⟨X.toNat, by omega⟩
      rw [Int.toNat_natCast] at hnext
      have hput := put_ok acc x (by omega) (by omega)
      have e8 : acc.length + (arcL x).length = (acc ++ arcL x).length := by simp
      rw [e8] at hput
      repeat (first | refine stp ?_ | refine N_block_pass rfl ?_ | refine sp1 ?_ | refine sg1 ?_ | refine WL_nil ?_)
      rw [show N.getD (Int.toNat (i : Int)) 0 = (x : Int) from hX]
      repeat (first | refine stp ?_ | refine N_block_pass rfl ?_ | refine sp1 ?_ | refine sg1 ?_ | refine WL_nil ?_)
      refine s_callM [68, 900] hput rfl rfl (by rw [hn]; rfl) rfl rfl (by trivial) ⟨rfl, ⟨rfl, rfl⟩, (by simp [ordL]), rfl⟩ ?_
      repeat (first | refine stp ?_ | refine N_block_pass rfl ?_ | refine sp1 ?_ | refine sg1 ?_ | refine WL_nil ?_)
      refine N_sr (fun a w h => SR.mv 85 900 rfl rfl rfl rfl rfl h) ?_
      refine N_round ⟨(i + 1, acc ++ arcL x), by dsimp only; omega, hnext.symm⟩ (by dsimp only; omega) (St.le_of ⟨⟨rfl, rfl, rfl, rfl, rfl⟩, ⟨rfl, rfl⟩⟩)
    · have hi2 : i = N.length := by simp at hc; omega
      subst hi2
      rw [List.take_length] at he
      subst he
      repeat (first | refine stp ?_ | refine N_block_pass rfl ?_ | refine sp1 ?_ | refine sg1 ?_ | refine WL_nil ?_)
      refine N_freeze 900 [(2, B8 (arcsL N))] rfl hb ⟨⟨rfl, rfl, rfl, by simp, by simp⟩, rfl⟩ ?_
      exact rt1 []
  · have hr' : rightO o = false := by simpa using hr
    have hR : contO o = .tup [B8 [], lv (.int .i64 1)] := by rw [contO, if_neg hr]
    rw [hR]
    have h1 := right_ok o hl
    rw [hr'] at h1
    refine Ct_intro Tryd.func12 rfl rfl rfl rfl rfl (fun E hn hb => ?_)
    repeat (first | refine stp ?_ | refine N_block_pass rfl ?_ | refine sp1 ?_ | refine sg1 ?_ | refine WL_nil ?_)
    refine s_call0 h1 rfl rfl rfl (by rw [hn]; rfl) rfl rfl (by first | trivial | (simp; done) | (simp; omega) | (simp at *; done) | (simp at *; omega)) rfl rfl rfl ?_
    repeat (first | refine stp ?_ | refine N_block_pass rfl ?_ | refine sp1 ?_ | refine sg1 ?_ | refine WL_nil ?_)
    refine W_cond rfl (by simp) (fun hc => ?_) (fun hc => ?_)
    · repeat (first | refine stp ?_ | refine N_block_pass rfl ?_ | refine sp1 ?_ | refine sg1 ?_ | refine WL_nil ?_)
      refine N_retU [] rfl (by simp) (r' := .tup [B8 [], lv (.int .i64 1)]) ⟨.inr ⟨rfl, .inl ⟨_, rfl⟩⟩, .inl rfl, trivial⟩ ⟨rfl, trivial, trivial, rfl⟩ hb rfl trivial
    · simp at hc
end Go.Proofs.YthalijmfhllgbaaDoor

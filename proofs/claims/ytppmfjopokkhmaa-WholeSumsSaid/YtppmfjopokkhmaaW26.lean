/-
  Chapter 03: what is left of a size, the program's way. The conditions: rows of at most a hundred thousand bytes.
-/
import Derived.Test.YtppmfjopokkhmaaW25
namespace Go.Proofs.Ytppmfjopokkhmaa
set_option linter.unusedSimpArgs false
set_option linter.unusedVariables false
open Go.Sx

set_option maxRecDepth 10000

/-- A row without another, from the right. -/
def subC : List Int → List Int → List Int × Int
  | x :: a, y :: b => ((x - y - (subC a b).2) % 256 :: (subC a b).1, -((x - y - (subC a b).2) / 256))
  | _, _ => ([], 0)
theorem sub_len : ∀ (a b : List Int), a.length = b.length → (subC a b).1.length = a.length
  | [], [], _ => rfl
  | x :: a, y :: b, h => by simp [subC, sub_len a b (by simpa using h)]
  | [], _ :: _, h => by simp at h
  | _ :: _, [], h => by simp at h
theorem sub_low : ∀ (a b : List Int), WfB a → WfB b → 0 ≤ (subC a b).2 ∧ (subC a b).2 ≤ 1
  | [], b, _, _ => by cases b <;> simp [subC]
  | x :: a, [], _, _ => by simp [subC]
  | x :: a, y :: b, ha, hb => by
    have hx := ha x (List.mem_cons_self ..)
    have hy := hb y (List.mem_cons_self ..)
    have := sub_low a b (wf_tail ha) (wf_tail hb)
    simp only [subC]
    omega
theorem sub_wf : ∀ (a b : List Int), WfB (subC a b).1
  | [], b => by cases b <;> (intro x hx; simp [subC] at hx)
  | x :: a, [] => by intro x hx; simp [subC] at hx
  | x :: a, y :: b => by
    intro z hz
    simp only [subC] at hz
    cases hz with
    | head => omega
    | tail _ hz => exact sub_wf a b z hz
theorem sub_val : ∀ (a b : List Int) (p q : Int), a.length = b.length → valA (p - q - (subC a b).2) (subC a b).1 = valA p a - valA q b
  | [], [], p, q, _ => by simp only [subC, valA]; omega
  | x :: a, y :: b, p, q, h => by
    have := sub_val a b (256 * p + x) (256 * q + y) (by simpa using h)
    simp only [subC, valA]
    rw [← this]
    congr 1
    omega
  | [], _ :: _, _, _, h => by simp at h
  | _ :: _, [], _, _, h => by simp at h
theorem val_neg : ∀ (l : List Int) (c : Int), c < 0 → WfB l → valA c l < 0
  | [], c, h, _ => h
  | x :: l, c, h, hw => by
    have hx := hw x (List.mem_cons_self ..)
    exact val_neg l _ (by omega) (wf_tail hw)

theorem minus1_ok (x y : List Int) (n i : Nat) (hx : x.length = n) (hy : y.length = n) (hi : i < n) (hn' : n ≤ 100001) (hwx : WfB x) (hwy : WfB y) (c : Int) (hc : 0 ≤ c ∧ c ≤ 1) :
    Ct Try.prog 106 [lv (.int .i64 (i : Int)), .c (.ptr 0 0), .c (.ptr 1 0), .c (.ptr 2 0)] [.cells [.own 3 1 0 n], .cells [.own 4 1 0 n], .cells [.lf (.v (.int .i64 c))], .row (.ints .u8 x), .row (.ints .u8 y)] (.tup [])
      [.cells [.own 3 1 0 n], .cells [.own 4 1 0 n], .cells [.lf (.v (.int .i64 (-((x.getD i 0 - y.getD i 0 - c) / 256))))], .row (.ints .u8 (x.set i ((x.getD i 0 - y.getD i 0 - c) % 256))), .row (.ints .u8 y)] [] := by
  have hgx : x.getD (0 + (i : Int).toNat) 0 = x[i]'(by omega) := by simp [show i < x.length by omega]
  have hgy : y.getD (0 + (i : Int).toNat) 0 = y[i]'(by omega) := by simp [show i < y.length by omega]
  have hbx := hwx x[i] (List.getElem_mem (by omega))
  have hby := hwy y[i] (List.getElem_mem (by omega))
  have ex : x.getD i 0 = x[i] := by simp [show i < x.length by omega]
  have ey : y.getD i 0 = y[i] := by simp [show i < y.length by omega]
  rw [ex, ey]
  generalize hs : x[i] - y[i] - c = s at *
  refine Ct_intro Try.func106 rfl rfl rfl rfl rfl (fun E hn hb => ?_)
  repeat (first | refine W_seq ?_ | refine W_region ?_ | refine W_block ?_ | refine W_skip ?_ | refine W_ret ?_ | refine W_exit ?_ | refine WL_nil ?_ | refine N_then ?_ | refine N_then_exit ?_ | refine N_then_ret ?_ | refine N_block ?_ | refine N_block_ret ?_ | refine N_block_exit ?_ | refine N_block_pass rfl ?_ | refine sp true rfl rfl (by rw [hn]; rfl) (by first | trivial | (simp; done) | (simp; omega) | (simp at *; done) | (simp at *; omega)) ?_ | refine sg true rfl rfl rfl (by rw [hn]; rfl) (by intro hG; first | trivial | (simp; done) | (simp; omega) | (simp at *; done) | (simp at *; omega)) ?_)
  refine W_drawW 14 (by kernel_rfl) (by kernel_rfl) (by kernel_rfl) (by rw [hn]; rfl) rfl rfl ?_
  repeat (first | refine DrawW_cons rfl (ops_pure true rfl rfl (by first | trivial | (simp; done) | (simp; omega) | (simp at *; done) | (simp at *; omega))) ?_ | refine DrawW_cons rfl (ops_pureG true rfl rfl rfl (by intro hG; first | trivial | (simp; done) | (simp; omega) | (simp at *; done) | (simp at *; omega))) ?_ | refine DrawW_nil ?_)
  rw [hgx, hgy]
  repeat (first | refine DrawW_cons rfl (ops_pure true rfl rfl (by first | trivial | (simp; done) | (simp; omega) | (simp at *; done) | (simp at *; omega))) ?_ | refine DrawW_cons rfl (ops_pureG true rfl rfl rfl (by intro hG; first | trivial | (simp; done) | (simp; omega) | (simp at *; done) | (simp at *; omega))) ?_ | refine DrawW_nil ?_)
  rw [hs]
  repeat (first | refine W_seq ?_ | refine W_region ?_ | refine W_block ?_ | refine W_skip ?_ | refine W_ret ?_ | refine W_exit ?_ | refine WL_nil ?_ | refine N_then ?_ | refine N_then_exit ?_ | refine N_then_ret ?_ | refine N_block ?_ | refine N_block_ret ?_ | refine N_block_exit ?_ | refine N_block_pass rfl ?_ | refine sp true rfl rfl (by rw [hn]; rfl) (by first | trivial | (simp; done) | (simp; omega) | (simp at *; done) | (simp at *; omega)) ?_ | refine sg true rfl rfl rfl (by rw [hn]; rfl) (by intro hG; first | trivial | (simp; done) | (simp; omega) | (simp at *; done) | (simp at *; omega)) ?_)
  refine s_storeN rfl rfl rfl rfl rfl (by first | trivial | (simp; done) | (simp; omega) | (simp at *; done) | (simp at *; omega)) rfl rfl rfl (by rw [cellsOf3]; rfl) (by rw [info3]; rfl) rfl rfl ?_
  repeat (first | refine W_seq ?_ | refine W_region ?_ | refine W_block ?_ | refine W_skip ?_ | refine W_ret ?_ | refine W_exit ?_ | refine WL_nil ?_ | refine N_then ?_ | refine N_then_exit ?_ | refine N_then_ret ?_ | refine N_block ?_ | refine N_block_ret ?_ | refine N_block_exit ?_ | refine N_block_pass rfl ?_ | refine sp true rfl rfl (by rw [hn]; rfl) (by first | trivial | (simp; done) | (simp; omega) | (simp at *; done) | (simp at *; omega)) ?_ | refine sg true rfl rfl rfl (by rw [hn]; rfl) (by intro hG; first | trivial | (simp; done) | (simp; omega) | (simp at *; done) | (simp at *; omega)) ?_)
  refine W_join (St.of [(0, lv (.int .i64 (i : Int))), (1, .c (.ptr 0 0)), (5, lv (.int .i64 (s % 256)))] [(0, .cells [.own 3 1 0 n]), (1, .cells [.own 4 1 0 n]), (2, .cells [.lf (.v (.int .i64 (-(s / 256))))]), (3, .row (.ints .u8 x)), (4, .row (.ints .u8 y))]) ?_ ?_
  · refine W_cond rfl (by simp) (fun hq => ?_) (fun hq => ?_)
    · have hs0 : s < 0 := by simpa using hq
      have e1 : s + 256 = s % 256 := by omega
      have e2 : (1 : Int) = -(s / 256) := by omega
      repeat (first | refine W_seq ?_ | refine W_region ?_ | refine W_block ?_ | refine W_skip ?_ | refine W_ret ?_ | refine W_exit ?_ | refine WL_nil ?_ | refine N_then ?_ | refine N_then_exit ?_ | refine N_then_ret ?_ | refine N_block ?_ | refine N_block_ret ?_ | refine N_block_exit ?_ | refine N_block_pass rfl ?_ | refine sp true rfl rfl (by rw [hn]; rfl) (by first | trivial | (simp; done) | (simp; omega) | (simp at *; done) | (simp at *; omega)) ?_ | refine sg true rfl rfl rfl (by rw [hn]; rfl) (by intro hG; first | trivial | (simp; done) | (simp; omega) | (simp at *; done) | (simp at *; omega)) ?_)
      rw [e1]
      repeat (first | refine W_seq ?_ | refine W_region ?_ | refine W_block ?_ | refine W_skip ?_ | refine W_ret ?_ | refine W_exit ?_ | refine WL_nil ?_ | refine N_then ?_ | refine N_then_exit ?_ | refine N_then_ret ?_ | refine N_block ?_ | refine N_block_ret ?_ | refine N_block_exit ?_ | refine N_block_pass rfl ?_ | refine sp true rfl rfl (by rw [hn]; rfl) (by first | trivial | (simp; done) | (simp; omega) | (simp at *; done) | (simp at *; omega)) ?_ | refine sg true rfl rfl rfl (by rw [hn]; rfl) (by intro hG; first | trivial | (simp; done) | (simp; omega) | (simp at *; done) | (simp at *; omega)) ?_)
      refine s_storeN rfl rfl rfl rfl rfl (by first | trivial | (simp; done) | (simp; omega) | (simp at *; done) | (simp at *; omega)) rfl rfl rfl (by rw [cellsOf3]; rfl) (by rw [info3]; rfl) rfl rfl ?_
      repeat (first | refine W_seq ?_ | refine W_region ?_ | refine W_block ?_ | refine W_skip ?_ | refine W_ret ?_ | refine W_exit ?_ | refine WL_nil ?_ | refine N_then ?_ | refine N_then_exit ?_ | refine N_then_ret ?_ | refine N_block ?_ | refine N_block_ret ?_ | refine N_block_exit ?_ | refine N_block_pass rfl ?_ | refine sp true rfl rfl (by rw [hn]; rfl) (by first | trivial | (simp; done) | (simp; omega) | (simp at *; done) | (simp at *; omega)) ?_ | refine sg true rfl rfl rfl (by rw [hn]; rfl) (by intro hG; first | trivial | (simp; done) | (simp; omega) | (simp at *; done) | (simp at *; omega)) ?_)
      rw [← e2]
      (refine N_join ?_; refine St.le_of ⟨?_, ?_⟩ <;> (repeat' (first | exact trivial | exact rfl | refine ⟨?_, ?_⟩)) <;> first | exact rfl | (simp; done) | skip)
    · have hs0 : ¬ s < 0 := by simpa using hq
      have e1 : s = s % 256 := by omega
      have e2 : (0 : Int) = -(s / 256) := by omega
      repeat (first | refine W_seq ?_ | refine W_region ?_ | refine W_block ?_ | refine W_skip ?_ | refine W_ret ?_ | refine W_exit ?_ | refine WL_nil ?_ | refine N_then ?_ | refine N_then_exit ?_ | refine N_then_ret ?_ | refine N_block ?_ | refine N_block_ret ?_ | refine N_block_exit ?_ | refine N_block_pass rfl ?_ | refine sp true rfl rfl (by rw [hn]; rfl) (by first | trivial | (simp; done) | (simp; omega) | (simp at *; done) | (simp at *; omega)) ?_ | refine sg true rfl rfl rfl (by rw [hn]; rfl) (by intro hG; first | trivial | (simp; done) | (simp; omega) | (simp at *; done) | (simp at *; omega)) ?_)
      rw [← e1, ← e2]
      (refine N_join ?_; refine St.le_of ⟨?_, ?_⟩ <;> (repeat' (first | exact trivial | exact rfl | refine ⟨?_, ?_⟩)) <;> first | exact rfl | (simp; done) | skip)
  repeat (first | refine W_seq ?_ | refine W_region ?_ | refine W_block ?_ | refine W_skip ?_ | refine W_ret ?_ | refine W_exit ?_ | refine WL_nil ?_ | refine N_then ?_ | refine N_then_exit ?_ | refine N_then_ret ?_ | refine N_block ?_ | refine N_block_ret ?_ | refine N_block_exit ?_ | refine N_block_pass rfl ?_ | refine sp true rfl rfl (by rw [hn]; rfl) (by first | trivial | (simp; done) | (simp; omega) | (simp at *; done) | (simp at *; omega)) ?_ | refine sg true rfl rfl rfl (by rw [hn]; rfl) (by intro hG; first | trivial | (simp; done) | (simp; omega) | (simp at *; done) | (simp at *; omega)) ?_)
  refine s_storeI rfl rfl rfl rfl rfl (by first | trivial | (simp; done) | (simp; omega) | (simp at *; done) | (simp at *; omega)) rfl (by rw [cellsOf5]) (by first | (simp; done) | (simp; omega) | (simp at *; omega)) ?_
  repeat (first | refine W_seq ?_ | refine W_region ?_ | refine W_block ?_ | refine W_skip ?_ | refine W_ret ?_ | refine W_exit ?_ | refine WL_nil ?_ | refine N_then ?_ | refine N_then_exit ?_ | refine N_then_ret ?_ | refine N_block ?_ | refine N_block_ret ?_ | refine N_block_exit ?_ | refine N_block_pass rfl ?_ | refine sp true rfl rfl (by rw [hn]; rfl) (by first | trivial | (simp; done) | (simp; omega) | (simp at *; done) | (simp at *; omega)) ?_ | refine sg true rfl rfl rfl (by rw [hn]; rfl) (by intro hG; first | trivial | (simp; done) | (simp; omega) | (simp at *; done) | (simp at *; omega)) ?_)
  refine N_endN [] rfl trivial ⟨rfl, ⟨rfl, rfl, rfl, ?_, rfl⟩, trivial, rfl⟩ hb rfl (by simp [ordL])
  show Blk.row (.ints .u8 (x.set (0 + (i : Int).toNat) (s % 256))) = _
  rw [Nat.zero_add, Int.toNat_natCast]; rfl

def minusL (l m : List Int) : List Int := (subC (padL l l.length) (padL m l.length)).1
theorem pad_self (l : List Int) : padL l l.length = l := by simp [padL]
theorem minus_val (l m : List Int) (hl : WfB l) (hm : WfB m) (hlen : m.length ≤ l.length) (hle : valA 0 m ≤ valA 0 l) : valA 0 (minusL l m) = valA 0 l - valA 0 m := by
  have h1 := pad_len m l.length hlen
  have h3 := sub_val (padL l l.length) (padL m l.length) 0 0 (by rw [pad_self]; omega)
  rw [pad_val, pad_val] at h3
  have h4 := sub_low (padL l l.length) (padL m l.length) (pad_wf _ hl) (pad_wf _ hm)
  have h5 : (subC (padL l l.length) (padL m l.length)).2 = 0 := by
    rcases Nat.lt_or_ge 0 1 with _ | _
    · by_cases h : (subC (padL l l.length) (padL m l.length)).2 = 1
      · have := val_neg (subC (padL l l.length) (padL m l.length)).1 (0 - 0 - (subC (padL l l.length) (padL m l.length)).2) (by omega) (sub_wf _ _)
        omega
      · omega
    · omega
  rw [h5] at h3
  exact h3
theorem minus_wf (l m : List Int) : WfB (minusL l m) := sub_wf _ _
theorem minus_len (l m : List Int) (hlen : m.length ≤ l.length) : (minusL l m).length = l.length := by
  have h1 := pad_len m l.length hlen
  rw [minusL, sub_len _ _ (by rw [pad_self]; omega), pad_self]

theorem minus_own (l m : List Int) (hl : l.length ≤ 99999) (hlen : m.length ≤ l.length) (hwl : WfB l) (hwm : WfB m) : Ct Try.prog 85 [B8 l, B8 m] [] (.c (.own 0 1 0 (minusL l m).length)) [] [.row (.ints .u8 (minusL l m))] := by
  have hpl := minus_len l m hlen
  have hx0 := pad_len l l.length (by omega)
  have hy0 := pad_len m l.length (by omega)
  have hwx := pad_wf l.length hwl
  have hwy := pad_wf l.length hwm
  have hw1 := wide_ok l l.length (by omega) (by omega)
  have hw2 := wide_ok m l.length (by omega) (by omega)
  have hP : minusL l m = (subC (padL l l.length) (padL m l.length)).1 := rfl
  refine Ct_intro Try.func85 rfl rfl rfl rfl rfl (fun E hn hb => ?_)
  repeat (first | refine W_seq ?_ | refine W_region ?_ | refine W_block ?_ | refine W_skip ?_ | refine W_ret ?_ | refine W_exit ?_ | refine WL_nil ?_ | refine N_then ?_ | refine N_then_exit ?_ | refine N_then_ret ?_ | refine N_block ?_ | refine N_block_ret ?_ | refine N_block_exit ?_ | refine N_block_pass rfl ?_ | refine sp true rfl rfl (by rw [hn]; rfl) (by first | trivial | (simp; done) | (simp; omega) | (simp at *; done) | (simp at *; omega)) ?_ | refine sg true rfl rfl rfl (by rw [hn]; rfl) (by intro hG; first | trivial | (simp; done) | (simp; omega) | (simp at *; done) | (simp at *; omega)) ?_)
  generalize minusL l m = pl at *
  generalize padL l l.length = X at *
  generalize padL m l.length = Y at *
  generalize hn0 : l.length = n at *
  refine s_call1 (hw1) rfl rfl rfl (by rw [hn]; rfl) rfl rfl (by first | trivial | (simp; done) | (simp; omega) | (simp at *; done) | (simp at *; omega)) rfl rfl rfl ?_
  repeat (first | refine W_seq ?_ | refine W_region ?_ | refine W_block ?_ | refine W_skip ?_ | refine W_ret ?_ | refine W_exit ?_ | refine WL_nil ?_ | refine N_then ?_ | refine N_then_exit ?_ | refine N_then_ret ?_ | refine N_block ?_ | refine N_block_ret ?_ | refine N_block_exit ?_ | refine N_block_pass rfl ?_ | refine sp true rfl rfl (by rw [hn]; rfl) (by first | trivial | (simp; done) | (simp; omega) | (simp at *; done) | (simp at *; omega)) ?_ | refine sg true rfl rfl rfl (by rw [hn]; rfl) (by intro hG; first | trivial | (simp; done) | (simp; omega) | (simp at *; done) | (simp at *; omega)) ?_)
  rw [hn0]
  refine s_call1 (hw2) rfl rfl rfl (by rw [hn]; rfl) rfl rfl (by first | trivial | (simp; done) | (simp; omega) | (simp at *; done) | (simp at *; omega)) rfl rfl rfl ?_
  repeat (first | refine W_seq ?_ | refine W_region ?_ | refine W_block ?_ | refine W_skip ?_ | refine W_ret ?_ | refine W_exit ?_ | refine WL_nil ?_ | refine N_then ?_ | refine N_then_exit ?_ | refine N_then_ret ?_ | refine N_block ?_ | refine N_block_ret ?_ | refine N_block_exit ?_ | refine N_block_pass rfl ?_ | refine sp true rfl rfl (by rw [hn]; rfl) (by first | trivial | (simp; done) | (simp; omega) | (simp at *; done) | (simp at *; omega)) ?_ | refine sg true rfl rfl rfl (by rw [hn]; rfl) (by intro hG; first | trivial | (simp; done) | (simp; omega) | (simp at *; done) | (simp at *; omega)) ?_)
  refine s_allocN rfl rfl rfl (by rw [hn]; rfl) rfl zok22 ?_
  refine s_allocN rfl rfl rfl (by rw [hn]; rfl) rfl zok22 ?_
  repeat (first | refine W_seq ?_ | refine W_region ?_ | refine W_block ?_ | refine W_skip ?_ | refine W_ret ?_ | refine W_exit ?_ | refine WL_nil ?_ | refine N_then ?_ | refine N_then_exit ?_ | refine N_then_ret ?_ | refine N_block ?_ | refine N_block_ret ?_ | refine N_block_exit ?_ | refine N_block_pass rfl ?_ | refine sp true rfl rfl (by rw [hn]; rfl) (by first | trivial | (simp; done) | (simp; omega) | (simp at *; done) | (simp at *; omega)) ?_ | refine sg true rfl rfl rfl (by rw [hn]; rfl) (by intro hG; first | trivial | (simp; done) | (simp; omega) | (simp at *; done) | (simp at *; omega)) ?_)
  refine s_storeN rfl rfl rfl rfl rfl (by first | trivial | (simp; done) | (simp; omega) | (simp at *; done) | (simp at *; omega)) rfl rfl rfl (by rw [cellsOf22]; rfl) (by rw [info22]; rfl) rfl rfl ?_
  refine s_storeN rfl rfl rfl rfl rfl (by first | trivial | (simp; done) | (simp; omega) | (simp at *; done) | (simp at *; omega)) rfl rfl rfl (by rw [cellsOf22]; rfl) (by rw [info22]; rfl) rfl rfl ?_
  repeat (first | refine W_seq ?_ | refine W_region ?_ | refine W_block ?_ | refine W_skip ?_ | refine W_ret ?_ | refine W_exit ?_ | refine WL_nil ?_ | refine N_then ?_ | refine N_then_exit ?_ | refine N_then_ret ?_ | refine N_block ?_ | refine N_block_ret ?_ | refine N_block_exit ?_ | refine N_block_pass rfl ?_ | refine sp true rfl rfl (by rw [hn]; rfl) (by first | trivial | (simp; done) | (simp; omega) | (simp at *; done) | (simp at *; omega)) ?_ | refine sg true rfl rfl rfl (by rw [hn]; rfl) (by intro hG; first | trivial | (simp; done) | (simp; omega) | (simp at *; done) | (simp at *; omega)) ?_)
  refine s_allocN rfl rfl rfl (by rw [hn]; rfl) rfl zok3 ?_
  repeat (first | refine W_seq ?_ | refine W_region ?_ | refine W_block ?_ | refine W_skip ?_ | refine W_ret ?_ | refine W_exit ?_ | refine WL_nil ?_ | refine N_then ?_ | refine N_then_exit ?_ | refine N_then_ret ?_ | refine N_block ?_ | refine N_block_ret ?_ | refine N_block_exit ?_ | refine N_block_pass rfl ?_ | refine sp true rfl rfl (by rw [hn]; rfl) (by first | trivial | (simp; done) | (simp; omega) | (simp at *; done) | (simp at *; omega)) ?_ | refine sg true rfl rfl rfl (by rw [hn]; rfl) (by intro hG; first | trivial | (simp; done) | (simp; omega) | (simp at *; done) | (simp at *; omega)) ?_)
  refine s_storeN rfl rfl rfl rfl rfl (by first | trivial | (simp; done) | (simp; omega) | (simp at *; done) | (simp at *; omega)) rfl rfl rfl (by rw [cellsOf3]; rfl) (by rw [info3]; rfl) rfl rfl ?_
  repeat (first | refine W_seq ?_ | refine W_region ?_ | refine W_block ?_ | refine W_skip ?_ | refine W_ret ?_ | refine W_exit ?_ | refine WL_nil ?_ | refine N_then ?_ | refine N_then_exit ?_ | refine N_then_ret ?_ | refine N_block ?_ | refine N_block_ret ?_ | refine N_block_exit ?_ | refine N_block_pass rfl ?_ | refine sp true rfl rfl (by rw [hn]; rfl) (by first | trivial | (simp; done) | (simp; omega) | (simp at *; done) | (simp at *; omega)) ?_ | refine sg true rfl rfl rfl (by rw [hn]; rfl) (by intro hG; first | trivial | (simp; done) | (simp; omega) | (simp at *; done) | (simp at *; omega)) ?_)
  rw [hn0]
  have hn1 : n ≤ 100001 := by omega
  refine W_weaken (St.le_of (l := [(0, B8 l), (5, .c (.ptr 69 0)), (8, .c (.fn (.func 106) [] [.ptr 69 0, .ptr 70 0, .ptr 71 0])), (20, lv (.int .i64 (n : Int))), (21, lv (.int .i64 0))]) (h := [(69, .cells [.own 77 1 0 n]), (70, .cells [.own 81 1 0 n]), (71, .cells [.lf (.v (.int .i64 0))]), (77, .row (.ints .u8 X)), (81, .row (.ints .u8 Y))]) (by refine ⟨?_, ?_⟩ <;> (repeat' (first | exact trivial | exact rfl | refine ⟨?_, ?_⟩)) <;> first | exact rfl | (simp; done) | skip)) ?_
  have e2 : X = X.take (n - 0) ++ (subC (X.drop (n - 0)) (Y.drop (n - 0))).1 := by
    rw [Nat.sub_zero, List.take_of_length_le (by omega), List.drop_of_length_le (by omega), List.drop_of_length_le (by omega)]; simp [subC]
  have e3 : (0 : Int) = (subC (X.drop (n - 0)) (Y.drop (n - 0))).2 := by rw [Nat.sub_zero, List.drop_of_length_le (by omega), List.drop_of_length_le (by omega)]; rfl
  refine W_weaken (τ := St.of [(0, B8 l), (5, .c (.ptr 69 0)), (8, .c (.fn (.func 106) [] [.ptr 69 0, .ptr 70 0, .ptr 71 0])), (20, lv (.int .i64 (n : Int))), (21, lv (.int .i64 ((0 : Nat) : Int)))] [(69, .cells [.own 77 1 0 n]), (70, .cells [.own 81 1 0 n]), (71, .cells [.lf (.v (.int .i64 (subC (X.drop (n - 0)) (Y.drop (n - 0))).2))]), (77, .row (.ints .u8 (X.take (n - 0) ++ (subC (X.drop (n - 0)) (Y.drop (n - 0))).1))), (81, .row (.ints .u8 Y))]) ?_ ?_
  · rw [← e2, ← e3]; exact ⟨fun _ => .inl rfl, fun _ => .inl rfl⟩
  refine W_loop (ι := {k : Nat // k ≤ n}) (fun k => St.of [(0, B8 l), (5, .c (.ptr 69 0)), (8, .c (.fn (.func 106) [] [.ptr 69 0, .ptr 70 0, .ptr 71 0])), (20, lv (.int .i64 (n : Int))), (21, lv (.int .i64 (k.1 : Int)))] [(69, .cells [.own 77 1 0 n]), (70, .cells [.own 81 1 0 n]), (71, .cells [.lf (.v (.int .i64 (subC (X.drop (n - k.1)) (Y.drop (n - k.1))).2))]), (77, .row (.ints .u8 (X.take (n - k.1) ++ (subC (X.drop (n - k.1)) (Y.drop (n - k.1))).1))), (81, .row (.ints .u8 Y))]) (fun k => n - k.1) (fun k => ?_) ⟨0, by omega⟩
  obtain ⟨k, hk⟩ := k
  dsimp only
  repeat (first | refine W_seq ?_ | refine W_region ?_ | refine W_block ?_ | refine W_skip ?_ | refine W_ret ?_ | refine W_exit ?_ | refine WL_nil ?_ | refine N_then ?_ | refine N_then_exit ?_ | refine N_then_ret ?_ | refine N_block ?_ | refine N_block_ret ?_ | refine N_block_exit ?_ | refine N_block_pass rfl ?_ | refine sp true rfl rfl (by rw [hn]; rfl) (by first | trivial | (simp; done) | (simp; omega) | (simp at *; done) | (simp at *; omega)) ?_ | refine sg true rfl rfl rfl (by rw [hn]; rfl) (by intro hG; first | trivial | (simp; done) | (simp; omega) | (simp at *; done) | (simp at *; omega)) ?_)
  refine W_cond rfl (by simp) (fun hq => ?_) (fun hq => ?_)
  · obtain ⟨i, hi⟩ : ∃ i, n - k = i + 1 := ⟨n - k - 1, by simp at hq; omega⟩
    have hix : i < X.length := by omega
    have hiy : i < Y.length := by omega
    have ei : n - (k + 1) = i := by omega
    have hdx : X.drop i = X[i] :: X.drop (i + 1) := List.drop_eq_getElem_cons hix
    have hdy : Y.drop i = Y[i] :: Y.drop (i + 1) := List.drop_eq_getElem_cons hiy
    have hlow := sub_low (X.drop (i + 1)) (Y.drop (i + 1)) (fun x hx => hwx x (List.mem_of_mem_drop hx)) (fun x hx => hwy x (List.mem_of_mem_drop hx))
    have hadd : subC (X.drop i) (Y.drop i) = ((X[i] - Y[i] - (subC (X.drop (i + 1)) (Y.drop (i + 1))).2) % 256 :: (subC (X.drop (i + 1)) (Y.drop (i + 1))).1, -((X[i] - Y[i] - (subC (X.drop (i + 1)) (Y.drop (i + 1))).2) / 256)) := by
      rw [hdx, hdy]; rfl
    have hRl := sub_len (X.drop (i + 1)) (Y.drop (i + 1)) (by simp; omega)
    have hRw := sub_wf (X.drop (i + 1)) (Y.drop (i + 1))
    rw [hi]
    generalize hcc : (subC (X.drop (i + 1)) (Y.drop (i + 1))).2 = c at *
    generalize hRR : (subC (X.drop (i + 1)) (Y.drop (i + 1))).1 = R at *
    have hT : X.take (i + 1) = X.take i ++ [X[i]] := by rw [List.take_add_one, List.getElem?_eq_getElem hix]; rfl
    have hlt : (X.take i).length = i := by simp; omega
    have hrl : R.length = n - (i + 1) := by rw [hRl]; simp; omega
    have hLl : (X.take (i + 1) ++ R).length = n := by simp [hrl]; omega
    have hwL : WfB (X.take (i + 1) ++ R) := by
      intro x hx
      rcases List.mem_append.1 hx with h | h
      · exact hwx x (List.mem_of_mem_take h)
      · exact hRw x h
    have hgL : (X.take (i + 1) ++ R).getD i 0 = X[i] := by
      rw [List.getD_eq_getElem?_getD, hT, List.append_assoc, List.getElem?_append_right (by omega), hlt, Nat.sub_self]; rfl
    have hgY : Y.getD i 0 = Y[i] := by simp [hiy]
    have hp1 := minus1_ok (X.take (i + 1) ++ R) Y n i hLl (by omega) (by omega) hn1 hwL hwy c hlow
    rw [hgL, hgY] at hp1
    have eidx : (n : Int) - 1 - k = (i : Int) := by omega
    repeat (first | refine W_seq ?_ | refine W_region ?_ | refine W_block ?_ | refine W_skip ?_ | refine W_ret ?_ | refine W_exit ?_ | refine WL_nil ?_ | refine N_then ?_ | refine N_then_exit ?_ | refine N_then_ret ?_ | refine N_block ?_ | refine N_block_ret ?_ | refine N_block_exit ?_ | refine N_block_pass rfl ?_ | refine sp true rfl rfl (by rw [hn]; rfl) (by first | trivial | (simp; done) | (simp; omega) | (simp at *; done) | (simp at *; omega)) ?_ | refine sg true rfl rfl rfl (by rw [hn]; rfl) (by intro hG; first | trivial | (simp; done) | (simp; omega) | (simp at *; done) | (simp at *; omega)) ?_)
    rw [hn0]
    repeat (first | refine W_seq ?_ | refine W_region ?_ | refine W_block ?_ | refine W_skip ?_ | refine W_ret ?_ | refine W_exit ?_ | refine WL_nil ?_ | refine N_then ?_ | refine N_then_exit ?_ | refine N_then_ret ?_ | refine N_block ?_ | refine N_block_ret ?_ | refine N_block_exit ?_ | refine N_block_pass rfl ?_ | refine sp true rfl rfl (by rw [hn]; rfl) (by first | trivial | (simp; done) | (simp; omega) | (simp at *; done) | (simp at *; omega)) ?_ | refine sg true rfl rfl rfl (by rw [hn]; rfl) (by intro hG; first | trivial | (simp; done) | (simp; omega) | (simp at *; done) | (simp at *; omega)) ?_)
    rw [eidx]
    refine s_call [69, 70, 71, 77, 81] hp1 rfl rfl (by rw [hn]; rfl) rfl rfl trivial ⟨rfl, ⟨rfl, rfl, rfl, rfl, rfl⟩, by simp [ordL], rfl⟩ ?_
    repeat (first | refine W_seq ?_ | refine W_region ?_ | refine W_block ?_ | refine W_skip ?_ | refine W_ret ?_ | refine W_exit ?_ | refine WL_nil ?_ | refine N_then ?_ | refine N_then_exit ?_ | refine N_then_ret ?_ | refine N_block ?_ | refine N_block_ret ?_ | refine N_block_exit ?_ | refine N_block_pass rfl ?_ | refine sp true rfl rfl (by rw [hn]; rfl) (by first | trivial | (simp; done) | (simp; omega) | (simp at *; done) | (simp at *; omega)) ?_ | refine sg true rfl rfl rfl (by rw [hn]; rfl) (by intro hG; first | trivial | (simp; done) | (simp; omega) | (simp at *; done) | (simp at *; omega)) ?_)
    refine N_round ⟨k + 1, by omega⟩ (by dsimp only; omega) (St.le_of ⟨⟨rfl, rfl, rfl, rfl, rfl⟩, ⟨rfl, rfl, ?_, ?_, rfl⟩⟩)
    · show Blk.cells [.lf (.v (.int .i64 (-((X[i] - Y[i] - c) / 256))))] = Blk.cells [.lf (.v (.int .i64 (subC (X.drop (n - (k + 1))) (Y.drop (n - (k + 1)))).2))]
      rw [ei, hadd]
    · show Blk.row (.ints .u8 ((X.take (i + 1) ++ R).set i ((X[i] - Y[i] - c) % 256))) = Blk.row (.ints .u8 (X.take (n - (k + 1)) ++ (subC (X.drop (n - (k + 1))) (Y.drop (n - (k + 1)))).1))
      rw [ei, hadd, hT, List.append_assoc, List.singleton_append, set_mid _ _ _ _ _ hlt]
  · have : k = n := by simp at hq; omega
    subst this
    rw [Nat.sub_self, List.take_zero, List.drop_zero, List.drop_zero, List.nil_append, ← hP]
    repeat (first | refine W_seq ?_ | refine W_region ?_ | refine W_block ?_ | refine W_skip ?_ | refine W_ret ?_ | refine W_exit ?_ | refine WL_nil ?_ | refine N_then ?_ | refine N_then_exit ?_ | refine N_then_ret ?_ | refine N_block ?_ | refine N_block_ret ?_ | refine N_block_exit ?_ | refine N_block_pass rfl ?_ | refine sp true rfl rfl (by rw [hn]; rfl) (by first | trivial | (simp; done) | (simp; omega) | (simp at *; done) | (simp at *; omega)) ?_ | refine sg true rfl rfl rfl (by rw [hn]; rfl) (by intro hG; first | trivial | (simp; done) | (simp; omega) | (simp at *; done) | (simp at *; omega)) ?_)
    have hkl : k = pl.length := by omega
    refine N_retN [77] rfl (by first | trivial | (simp; done) | (simp; omega) | (simp at *; done) | (simp at *; omega)) ⟨?_, by first | trivial | exact ⟨rfl, rfl⟩, ?_, rfl⟩ hb rfl (by first | trivial | (simp; done))
    · rw [← hkl]; rfl
    · rfl
end Go.Proofs.Ytppmfjopokkhmaa

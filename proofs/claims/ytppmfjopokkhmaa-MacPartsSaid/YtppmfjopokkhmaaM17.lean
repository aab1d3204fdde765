/-
  Chapter 12's parts, walked: it returns true. The conditions: rows that a machine can hold.
-/
import Derived.Test.YtppmfjopokkhmaaM13
import Derived.Test.YtppmfjopokkhmaaM16
namespace Go.Proofs.Ytppmfjopokkhmaa
set_option linter.unusedSimpArgs false
set_option linter.unusedVariables false
open Go.Sx

set_option maxRecDepth 10000

theorem put_any (v : V8) (bg : Bool) (m : List Int) (b : List Int) (hc : cond bg v H0 = finS H0 m) (hm : WfB m) (hb : WfB b) (hn1 : m.length + b.length ≤ 1000000) :
    Ct Try.prog 41 [.c (.ptr 0 0), partsA [b]] [.cells (hC v bg (.own 1 1 0 (finL m).length) (m.length : Int)), toldR m] (.tup []) [.cells (hC (finS H0 (m ++ b)) true (.own 2 1 0 (finL (m ++ b)).length) ((m ++ b).length : Int)), .row (.ints .u8 [])] [toldR (m ++ b)] := by
  have e1 : [b].flatten = b := by simp
  have h := put_ok v bg (finL m) m.length [b] (by rw [hc]; exact finS_ok _ _ _ rfl H0_ok) (finL_wf hm) (fun z hz => by rw [List.mem_singleton.1 hz]; exact hb) (finL_len m).1 (by simp) (by rw [e1]; exact hn1)
  obtain ⟨f1, f2⟩ := fin_app _ H0 m b rfl
  rw [e1, hc, ← f1, ← f2, show m.length + b.length = (m ++ b).length by simp] at h
  exact h
/-- The state behind some parts. -/
structure PS where
  v : V8
  bg : Bool
  ps : List (List Int)
def PS.ok (b : List Int) (n : Nat) (p : PS) : Prop := cond p.bg p.v H0 = finS H0 p.ps.flatten ∧ p.ps.flatten = b.take p.ps.flatten.length ∧ p.ps.flatten.length ≤ b.length ∧ p.ps.length ≤ min n 20 + 1 ∧ (p.ps.length = min n 20 + 1 → p.ps.flatten.length = b.length)

set_option maxHeartbeats 8000000 in
theorem macparts_ok (k0 b0 cs : List Int) (hlk : k0.length ≤ 9223372036854775807) (hlb : b0.length ≤ 9223372036854775807) (hlc : cs.length ≤ 9223372036854775807) (hwk : WfB k0) (hwb : WfB b0) :
    Ct Try.prog 7 [B8 k0, B8 b0, .c (.lf (.ints .i64 cs))] [] (lv (.bool true)) [] [] := by
  have fb := few12_ok b0 hlb
  have lb : (b0.take 1000).length ≤ 1000 := by simp; omega
  have lk : (k0.take (min (k0.length : Int) 300).toNat).length ≤ 300 := by simp; omega
  have wb : WfB (b0.take 1000) := fun x hx => hwb x (List.mem_of_mem_take hx)
  have wk : WfB (k0.take (min (k0.length : Int) 300).toNat) := fun x hx => hwk x (List.mem_of_mem_take hx)
  generalize b0.take 1000 = b at *
  refine Ct_intro Try.func7 rfl rfl rfl rfl rfl (fun E hn hb => ?_)
  repeat (first | refine W_seq ?_ | refine W_region ?_ | refine W_block ?_ | refine W_skip ?_ | refine W_ret ?_ | refine W_exit ?_ | refine WL_nil ?_ | refine N_then ?_ | refine N_then_exit ?_ | refine N_then_ret ?_ | refine N_block ?_ | refine N_block_ret ?_ | refine N_block_exit ?_ | refine N_block_pass rfl ?_ | refine sp true rfl rfl (by rw [hn]; rfl) (by first | trivial | (simp; done) | (simp; omega) | (simp at *; done) | (simp at *; omega)) ?_ | refine sg true rfl rfl rfl (by rw [hn]; rfl) (by intro hG; first | trivial | (simp; done) | (simp; omega) | (simp at *; done) | (simp at *; omega)) ?_)
  refine W_drawP (by kernel_rfl) (by kernel_rfl) (by rw [hn]; rfl) ?_
  repeat (first | refine DrawW_cons rfl (ops_pure true rfl rfl (by first | trivial | (simp; done) | (simp; omega) | (simp at *; done) | (simp at *; omega))) ?_ | refine DrawW_cons rfl (ops_pureG true rfl rfl rfl (by intro hG; first | trivial | (simp; done) | (simp; omega) | (simp at *; done) | (simp at *; omega))) ?_ | refine DrawW_nil ?_)
  refine DrawW_cons rfl (ops_of (opys_call (fb) rfl rfl rfl (by first | trivial | (simp; done) | (simp; omega) | (simp at *; done) | (simp at *; omega)) rfl rfl rfl) rfl) ?_
  repeat (first | refine DrawW_cons rfl (ops_pure true rfl rfl (by first | trivial | (simp; done) | (simp; omega) | (simp at *; done) | (simp at *; omega))) ?_ | refine DrawW_cons rfl (ops_pureG true rfl rfl rfl (by intro hG; first | trivial | (simp; done) | (simp; omega) | (simp at *; done) | (simp at *; omega))) ?_ | refine DrawW_nil ?_)
  refine WL_nil ?_
  refine N_then ?_
  refine W_weaken (St.le_of (l := [(0, B8 (k0.take (min (k0.length : Int) 300).toNat)), (1, B8 b), (2, .c (.lf (.ints .i64 cs))), (6, lv (.bool false))]) (h := []) (by refine ⟨?_, ?_⟩ <;> (repeat' (first | exact trivial | exact rfl | refine ⟨?_, ?_⟩)) <;> first | exact rfl | (simp; done) | skip)) ?_
  generalize k0.take (min (k0.length : Int) 300).toNat = k at *
  repeat (first | refine W_seq ?_ | refine W_region ?_ | refine W_block ?_ | refine W_skip ?_ | refine W_ret ?_ | refine W_exit ?_ | refine WL_nil ?_ | refine N_then ?_ | refine N_then_exit ?_ | refine N_then_ret ?_ | refine N_block ?_ | refine N_block_ret ?_ | refine N_block_exit ?_ | refine N_block_pass rfl ?_ | refine sp true rfl rfl (by rw [hn]; rfl) (by first | trivial | (simp; done) | (simp; omega) | (simp at *; done) | (simp at *; omega)) ?_ | refine sg true rfl rfl rfl (by rw [hn]; rfl) (by intro hG; first | trivial | (simp; done) | (simp; omega) | (simp at *; done) | (simp at *; omega)) ?_)
  refine s_call [] new_ok rfl rfl (by rw [hn]; rfl) rfl rfl (by trivial) ⟨rfl, trivial, trivial, rfl⟩ ?_
  repeat (first | refine W_seq ?_ | refine W_region ?_ | refine W_block ?_ | refine W_skip ?_ | refine W_ret ?_ | refine W_exit ?_ | refine WL_nil ?_ | refine N_then ?_ | refine N_then_exit ?_ | refine N_then_ret ?_ | refine N_block ?_ | refine N_block_ret ?_ | refine N_block_exit ?_ | refine N_block_pass rfl ?_ | refine sp true rfl rfl (by rw [hn]; rfl) (by first | trivial | (simp; done) | (simp; omega) | (simp at *; done) | (simp at *; omega)) ?_ | refine sg true rfl rfl rfl (by rw [hn]; rfl) (by intro hG; first | trivial | (simp; done) | (simp; omega) | (simp at *; done) | (simp at *; omega)) ?_)
  refine W_sr (fun a w h => SR.cell_nil (cs := hC Z8 false (.lf (.v (.slice none 0 0))) 0) (cs' := hC Z8 false (.own 900 1 0 0) 0) 83 9 900 rfl rfl rfl rfl rfl h) ?_
  refine W_own_nil 7 901 1 (.recs 1 []) rfl rfl (.inr (.inr ⟨_, rfl⟩)) ?_
  have eF : finL ([] : List (List Int)).flatten = [] := finL_done _ (by simp)
  have eC : Blk.cells (hC Z8 false (.own 900 1 0 0) 0) = Blk.cells (hC Z8 false (.own 900 1 0 (finL ([] : List (List Int)).flatten).length) (([] : List (List Int)).flatten.length : Int)) := by rw [eF]; rfl
  have eR : Blk.row (.ints .u8 []) = toldR ([] : List (List Int)).flatten := by unfold toldR; rw [eF]
  refine W_weaken (τ := St.of [(0, B8 k), (1, B8 b), (2, .c (.lf (.ints .i64 cs))), (6, lv (.bool false)), (7, .c (.own 901 1 0 ([] : List (List Int)).length)), (8, .c (.ptr 83 0)), (9, lv (.int .i64 (([] : List (List Int)).flatten.length : Int))), (10, lv (.int .i64 (([] : List (List Int)).length : Int)))] [(83, .cells (hC Z8 false (.own 900 1 0 (finL ([] : List (List Int)).flatten).length) (([] : List (List Int)).flatten.length : Int))), (900, toldR ([] : List (List Int)).flatten), (901, .row (.recs 1 (([] : List (List Int)).map fun b => [.ints .u8 b])))]) (St.le_of ⟨⟨rfl, rfl, rfl, rfl, rfl, rfl, rfl, rfl⟩, ⟨eC, eR, rfl⟩⟩) ?_
  refine W_loop (ι := {p : PS // p.ok b cs.length}) (fun p => St.of [(0, B8 k), (1, B8 b), (2, .c (.lf (.ints .i64 cs))), (6, lv (.bool false)), (7, .c (.own 901 1 0 p.1.ps.length)), (8, .c (.ptr 83 0)), (9, lv (.int .i64 (p.1.ps.flatten.length : Int))), (10, lv (.int .i64 (p.1.ps.length : Int)))] [(83, .cells (hC p.1.v p.1.bg (.own 900 1 0 (finL p.1.ps.flatten).length) (p.1.ps.flatten.length : Int))), (900, toldR p.1.ps.flatten), (901, .row (.recs 1 (p.1.ps.map fun b => [.ints .u8 b])))]) (fun p => 100 - p.1.ps.length) (fun p => ?_) ⟨⟨Z8, false, []⟩, rfl, rfl, by simp, by simp, by simp⟩
  obtain ⟨⟨v, bg, ps⟩, q1, q2, q3, q4, q5⟩ := p
  dsimp only at q1 q2 q3 q4 q5 ⊢
  repeat (first | refine W_seq ?_ | refine W_region ?_ | refine W_block ?_ | refine W_skip ?_ | refine W_ret ?_ | refine W_exit ?_ | refine WL_nil ?_ | refine N_then ?_ | refine N_then_exit ?_ | refine N_then_ret ?_ | refine N_block ?_ | refine N_block_ret ?_ | refine N_block_exit ?_ | refine N_block_pass rfl ?_ | refine sp true rfl rfl (by rw [hn]; rfl) (by first | trivial | (simp; done) | (simp; omega) | (simp at *; done) | (simp at *; omega)) ?_ | refine sg true rfl rfl rfl (by rw [hn]; rfl) (by intro hG; first | trivial | (simp; done) | (simp; omega) | (simp at *; done) | (simp at *; omega)) ?_)
  generalize hm : ps.flatten = m at *
  refine W_cond rfl (by simp) (fun hc => ?_) (fun hc => ?_)
  · have hi : ps.length ≤ cs.length ∧ ps.length ≤ 20 := by simp at hc; omega
    repeat (first | refine W_seq ?_ | refine W_region ?_ | refine W_block ?_ | refine W_skip ?_ | refine W_ret ?_ | refine W_exit ?_ | refine WL_nil ?_ | refine N_then ?_ | refine N_then_exit ?_ | refine N_then_ret ?_ | refine N_block ?_ | refine N_block_ret ?_ | refine N_block_exit ?_ | refine N_block_pass rfl ?_ | refine sp true rfl rfl (by rw [hn]; rfl) (by first | trivial | (simp; done) | (simp; omega) | (simp at *; done) | (simp at *; omega)) ?_ | refine sg true rfl rfl rfl (by rw [hn]; rfl) (by intro hG; first | trivial | (simp; done) | (simp; omega) | (simp at *; done) | (simp at *; omega)) ?_)
    refine W_joinF (ι := {to : Nat // m.length ≤ to ∧ to ≤ b.length ∧ (ps.length = min cs.length 20 → to = b.length)}) (fun to => St.of [(0, B8 k), (1, B8 b), (2, .c (.lf (.ints .i64 cs))), (6, lv (.bool false)), (7, .c (.own 901 1 0 ps.length)), (8, .c (.ptr 83 0)), (9, lv (.int .i64 (m.length : Int))), (10, lv (.int .i64 (ps.length : Int))), (11, lv (.int .i64 (to.1 : Int)))] [(83, .cells (hC v bg (.own 900 1 0 (finL m).length) (m.length : Int))), (900, toldR m), (901, .row (.recs 1 (ps.map fun b => [.ints .u8 b])))]) ?_ (fun to => ?_)
    · refine W_cond rfl (by simp) (fun hc2 => ?_) (fun hc2 => ?_)
      · have hi2 : ps.length < cs.length ∧ ps.length < 20 := by simp at hc2; omega
        repeat (first | refine W_seq ?_ | refine W_region ?_ | refine W_block ?_ | refine W_skip ?_ | refine W_ret ?_ | refine W_exit ?_ | refine WL_nil ?_ | refine N_then ?_ | refine N_then_exit ?_ | refine N_then_ret ?_ | refine N_block ?_ | refine N_block_ret ?_ | refine N_block_exit ?_ | refine N_block_pass rfl ?_ | refine sp true rfl rfl (by rw [hn]; rfl) (by first | trivial | (simp; done) | (simp; omega) | (simp at *; done) | (simp at *; omega)) ?_ | refine sg true rfl rfl rfl (by rw [hn]; rfl) (by intro hG; first | trivial | (simp; done) | (simp; omega) | (simp at *; done) | (simp at *; omega)) ?_)
        refine sp false rfl rfl (by rw [hn]; rfl) (by first | trivial | (simp; done) | (simp; omega) | (simp at *; done) | (simp at *; omega)) ?_
        repeat (first | refine W_seq ?_ | refine W_region ?_ | refine W_block ?_ | refine W_skip ?_ | refine W_ret ?_ | refine W_exit ?_ | refine WL_nil ?_ | refine N_then ?_ | refine N_then_exit ?_ | refine N_then_ret ?_ | refine N_block ?_ | refine N_block_ret ?_ | refine N_block_exit ?_ | refine N_block_pass rfl ?_ | refine sp true rfl rfl (by rw [hn]; rfl) (by first | trivial | (simp; done) | (simp; omega) | (simp at *; done) | (simp at *; omega)) ?_ | refine sg true rfl rfl rfl (by rw [hn]; rfl) (by intro hG; first | trivial | (simp; done) | (simp; omega) | (simp at *; done) | (simp at *; omega)) ?_)
        rw [Int.toNat_natCast]
        have hr1 : 0 ≤ IntKind.u64.wrap (cs.getD ps.length 0) % ((b.length : Int) - (m.length : Int) + 1) := Int.emod_nonneg _ (by omega)
        have hr2 : IntKind.u64.wrap (cs.getD ps.length 0) % ((b.length : Int) - (m.length : Int) + 1) < (b.length : Int) - (m.length : Int) + 1 := Int.emod_lt_of_pos _ (by omega)
        have hw0 : 0 ≤ IntKind.u64.wrap (cs.getD ps.length 0) := by
          simp only [IntKind.wrap, IntKind.signed, IntKind.bits]
          simp
          omega
        refine sp true rfl rfl (by rw [hn]; rfl) ?_ ?_
        · exact ⟨rfl, by omega, hw0⟩
        generalize IntKind.u64.wrap (cs.getD ps.length 0) % ((b.length : Int) - (m.length : Int) + 1) = r at *
        repeat (first | refine W_seq ?_ | refine W_region ?_ | refine W_block ?_ | refine W_skip ?_ | refine W_ret ?_ | refine W_exit ?_ | refine WL_nil ?_ | refine N_then ?_ | refine N_then_exit ?_ | refine N_then_ret ?_ | refine N_block ?_ | refine N_block_ret ?_ | refine N_block_exit ?_ | refine N_block_pass rfl ?_ | refine sp true rfl rfl (by rw [hn]; rfl) (by first | trivial | (simp; done) | (simp; omega) | (simp at *; done) | (simp at *; omega)) ?_ | refine sg true rfl rfl rfl (by rw [hn]; rfl) (by intro hG; first | trivial | (simp; done) | (simp; omega) | (simp at *; done) | (simp at *; omega)) ?_)
        obtain ⟨r, rfl⟩ := Int.eq_ofNat_of_zero_le hr1
        exact N_joinF ⟨m.length + r, by omega, by omega, by omega⟩ (St.le_of ⟨⟨rfl, rfl, rfl, rfl, rfl, rfl, rfl, rfl, rfl⟩, ⟨rfl, rfl, rfl⟩⟩)
      · have hi2 : ps.length = min cs.length 20 := by simp at hc2; omega
        repeat (first | refine W_seq ?_ | refine W_region ?_ | refine W_block ?_ | refine W_skip ?_ | refine W_ret ?_ | refine W_exit ?_ | refine WL_nil ?_ | refine N_then ?_ | refine N_then_exit ?_ | refine N_then_ret ?_ | refine N_block ?_ | refine N_block_ret ?_ | refine N_block_exit ?_ | refine N_block_pass rfl ?_ | refine sp true rfl rfl (by rw [hn]; rfl) (by first | trivial | (simp; done) | (simp; omega) | (simp at *; done) | (simp at *; omega)) ?_ | refine sg true rfl rfl rfl (by rw [hn]; rfl) (by intro hG; first | trivial | (simp; done) | (simp; omega) | (simp at *; done) | (simp at *; omega)) ?_)
        exact N_joinF ⟨b.length, q3, by omega, fun _ => rfl⟩ (St.le_of ⟨⟨rfl, rfl, rfl, rfl, rfl, rfl, rfl, rfl, rfl⟩, ⟨rfl, rfl, rfl⟩⟩)
    · obtain ⟨to, h1, h2, h3⟩ := to
      dsimp only
      repeat (first | refine W_seq ?_ | refine W_region ?_ | refine W_block ?_ | refine W_skip ?_ | refine W_ret ?_ | refine W_exit ?_ | refine WL_nil ?_ | refine N_then ?_ | refine N_then_exit ?_ | refine N_then_ret ?_ | refine N_block ?_ | refine N_block_ret ?_ | refine N_block_exit ?_ | refine N_block_pass rfl ?_ | refine sp true rfl rfl (by rw [hn]; rfl) (by first | trivial | (simp; done) | (simp; omega) | (simp at *; done) | (simp at *; omega)) ?_ | refine sg true rfl rfl rfl (by rw [hn]; rfl) (by intro hG; first | trivial | (simp; done) | (simp; omega) | (simp at *; done) | (simp at *; omega)) ?_)
      rw [Int.toNat_natCast, Int.toNat_natCast]
      obtain ⟨x, hx⟩ : ∃ x, (b.take to).drop m.length = x := ⟨_, rfl⟩
      have hmx : m ++ x = b.take to := by
        rw [← hx]
        have : m = (b.take to).take m.length := by rw [List.take_take, Nat.min_eq_left h1]; exact q2
        conv => lhs; arg 1; rw [this]
        exact List.take_append_drop _ _
      have hxl : m.length + x.length = to := by
        have := congrArg List.length hmx
        simp at this
        omega
      have wx : WfB x := fun y hy => wb y (by rw [← hx] at hy; exact List.mem_of_mem_take (List.mem_of_mem_drop hy))
      have wm : WfB m := fun y hy => wb y (by rw [q2] at hy; exact List.mem_of_mem_take hy)
      have hpa := put_any v bg m x q1 wm wx (by omega)
      have wm2 : WfB (m ++ x) := wf_app wm wx
      have ht : to = (m ++ x).length := by simp; omega
      rw [hx]
      have hps : (ps ++ [x]).flatten = m ++ x := by rw [List.flatten_append, hm]; simp
      generalize m ++ x = m2 at *
      subst ht
      refine WL_q (opq_of (opy_lit (d := (.recs 1 [[.ints .u8 x]])) rfl (elt_mk Try.underlying61 rfl rfl) zok22 rfl (by first | trivial | (simp; done) | (simp; omega) | (simp at *; done) | (simp at *; omega)) rfl ⟨by decide, by decide, rfl, rfl⟩) rfl) (by rw [hn]; rfl) ?_
      refine s_append rfl rfl rfl rfl rfl (by rw [hn]; rfl) (elt_mk Try.underlying61 rfl rfl) rfl rfl rfl rfl (by simp) (by rfl) ⟨rfl, by decide, by simp [lenD]⟩ ⟨by simp [lenD]; omega, by decide⟩ ?_
      repeat (first | refine W_seq ?_ | refine W_region ?_ | refine W_block ?_ | refine W_skip ?_ | refine W_ret ?_ | refine W_exit ?_ | refine WL_nil ?_ | refine N_then ?_ | refine N_then_exit ?_ | refine N_then_ret ?_ | refine N_block ?_ | refine N_block_ret ?_ | refine N_block_exit ?_ | refine N_block_pass rfl ?_ | refine sp true rfl rfl (by rw [hn]; rfl) (by first | trivial | (simp; done) | (simp; omega) | (simp at *; done) | (simp at *; omega)) ?_ | refine sg true rfl rfl rfl (by rw [hn]; rfl) (by intro hG; first | trivial | (simp; done) | (simp; omega) | (simp at *; done) | (simp at *; omega)) ?_)
      rw [Int.toNat_natCast, Int.toNat_natCast, hx]
      refine WL_q (opq_of (opy_lit (d := (.recs 1 [[.ints .u8 x]])) rfl (elt_mk Try.underlying61 rfl rfl) zok22 rfl (by first | trivial | (simp; done) | (simp; omega) | (simp at *; done) | (simp at *; omega)) rfl ⟨by decide, by decide, rfl, rfl⟩) rfl) (by rw [hn]; rfl) ?_
      refine s_call [83, 900] hpa rfl rfl (by rw [hn]; rfl) rfl rfl (by trivial) ⟨rfl, ⟨rfl, rfl⟩, (by simp [ordL]), rfl⟩ ?_
      repeat (first | refine W_seq ?_ | refine W_region ?_ | refine W_block ?_ | refine W_skip ?_ | refine W_ret ?_ | refine W_exit ?_ | refine WL_nil ?_ | refine N_then ?_ | refine N_then_exit ?_ | refine N_then_ret ?_ | refine N_block ?_ | refine N_block_ret ?_ | refine N_block_exit ?_ | refine N_block_pass rfl ?_ | refine sp true rfl rfl (by rw [hn]; rfl) (by first | trivial | (simp; done) | (simp; omega) | (simp at *; done) | (simp at *; omega)) ?_ | refine sg true rfl rfl rfl (by rw [hn]; rfl) (by intro hG; first | trivial | (simp; done) | (simp; omega) | (simp at *; done) | (simp at *; omega)) ?_)
      have l2 := finL_len m2
      have lnD := lenD_ok (finS H0 m2) true (((finL m2).drop 0).take (finL m2).length) (m2.length : Int)
      have smD := sumD_told m2 wm2 (by omega)
      have e0 : finL m2 = ((finL m2).drop 0).take (finL m2).length := by rw [List.drop_zero, List.take_length]
      rw [e0] at smD
      have q7 := msum_ok [m2] (fun z hz => by rw [List.mem_singleton.1 hz]; exact wm2) (by simp) (by simp; omega)
      have e1 : [m2].flatten = m2 := by simp
      rw [e1] at q7
      have hdl := digS_len m2
      generalize digS m2 = D at *
      refine W_weaken (τ := St.of [(0, B8 k), (1, B8 b), (2, .c (.lf (.ints .i64 cs))), (6, lv (.bool false)), (7, .c (.own 901 1 0 (ps ++ [x]).length)), (8, .c (.ptr 83 0)), (9, lv (.int .i64 (m2.length : Int))), (10, lv (.int .i64 (ps.length : Int)))] [(83, .cells (hC (finS H0 m2) true (.own 132 1 0 (finL m2).length) (m2.length : Int))), (132, toldR m2), (901, .row (.recs 1 ((ps ++ [x]).map fun b => [.ints .u8 b])))]) (St.le_of ⟨⟨rfl, rfl, rfl, rfl, ?_, rfl, rfl, rfl⟩, ⟨rfl, rfl, ?_⟩⟩) ?_
      · exact congrArg (fun n => Av.c (.own 901 1 0 n)) (by simp [lenD])
      · exact congrArg (fun l => Blk.row (.recs 1 l)) (by simp [List.take_of_length_le])
      refine W_drawP (by kernel_rfl) (by kernel_rfl) (by rw [hn]; rfl) ?_
      repeat (first | refine DrawW_cons rfl (ops_pure true rfl rfl (by first | trivial | (simp; done) | (simp; omega) | (simp at *; done) | (simp at *; omega))) ?_ | refine DrawW_cons rfl (ops_pureG true rfl rfl rfl (by intro hG; first | trivial | (simp; done) | (simp; omega) | (simp at *; done) | (simp at *; omega))) ?_ | refine DrawW_nil ?_)
      refine DrawW_cons rfl (ops_of (opys_callH lnD rfl rfl rfl (by trivial) ⟨.inr ⟨83, _, hD (finS H0 m2) true (((finL m2).drop 0).take (finL m2).length) (m2.length : Int), rfl, rfl, ⟨.inl rfl, .inl rfl, .inl rfl, .inl rfl, .inl rfl, .inl rfl, .inl rfl, .inl rfl, .inl rfl, .inr ⟨132, 0, _, .u8, _, rfl, rfl, by simp, rfl⟩, .inl rfl, trivial⟩, rfl⟩, trivial⟩ rfl) rfl) ?_
      repeat (first | refine DrawW_cons rfl (ops_pure true rfl rfl (by first | trivial | (simp; done) | (simp; omega) | (simp at *; done) | (simp at *; omega))) ?_ | refine DrawW_cons rfl (ops_pureG true rfl rfl rfl (by intro hG; first | trivial | (simp; done) | (simp; omega) | (simp at *; done) | (simp at *; omega))) ?_ | refine DrawW_nil ?_)
      refine DrawW_cons rfl (ops_ofG rfl rfl (fun hG => opys_callH smD rfl rfl rfl (by first | exact hG | exact ⟨hG, trivial⟩ | (simp at *; done)) ⟨.inr ⟨83, _, hD (finS H0 m2) true (((finL m2).drop 0).take (finL m2).length) (m2.length : Int), rfl, rfl, ⟨.inl rfl, .inl rfl, .inl rfl, .inl rfl, .inl rfl, .inl rfl, .inl rfl, .inl rfl, .inl rfl, .inr ⟨132, 0, _, .u8, _, rfl, rfl, by simp, rfl⟩, .inl rfl, trivial⟩, rfl⟩, trivial⟩ rfl)) ?_
      repeat (first | refine DrawW_cons rfl (ops_pure true rfl rfl (by first | trivial | (simp; done) | (simp; omega) | (simp at *; done) | (simp at *; omega))) ?_ | refine DrawW_cons rfl (ops_pureG true rfl rfl rfl (by intro hG; first | trivial | (simp; done) | (simp; omega) | (simp at *; done) | (simp at *; omega))) ?_ | refine DrawW_nil ?_)
      rw [Int.toNat_natCast, ← hmx]
      refine DrawW_cons rfl (ops_ofG rfl rfl (fun hG => opys_lit (d := (.recs 1 [[.ints .u8 m2]])) rfl (elt_mk Try.underlying61 rfl rfl) zok22 rfl (by first | exact hG | exact ⟨hG, hG⟩ | exact ⟨hG, trivial⟩ | (simp; done) | (simp at *; done) | (simp at *; omega)) rfl ⟨by decide, by decide, rfl, rfl⟩)) ?_
      refine DrawW_cons rfl (ops_ofG rfl rfl (fun hG => opys_call (q7) rfl rfl rfl (by first | exact hG | (first | trivial | (simp; done) | (simp; omega) | (simp at *; done) | (simp at *; omega))) rfl rfl rfl)) ?_
      refine DrawW_cons rfl (ops_ofG rfl rfl (fun hG => opys_eqA (neg := true) (k := .u8) rfl Try.underlying56 Try.underlying5 cellsOf5 rfl rfl (by first | exact hG | exact ⟨hG, hG⟩ | (simp at *; done)) (by kernel_rfl) hdl hdl)) ?_
      repeat (first | refine DrawW_cons rfl (ops_pure true rfl rfl (by first | trivial | (simp; done) | (simp; omega) | (simp at *; done) | (simp at *; omega))) ?_ | refine DrawW_cons rfl (ops_pureG true rfl rfl rfl (by intro hG; first | trivial | (simp; done) | (simp; omega) | (simp at *; done) | (simp at *; omega))) ?_ | refine DrawW_nil ?_)
      refine WL_nil ?_
      refine N_then ?_
      refine W_cond rfl (by simp) (fun hc => ?_) (fun hc => ?_)
      · simp at hc
      repeat (first | refine W_seq ?_ | refine W_region ?_ | refine W_block ?_ | refine W_skip ?_ | refine W_ret ?_ | refine W_exit ?_ | refine WL_nil ?_ | refine N_then ?_ | refine N_then_exit ?_ | refine N_then_ret ?_ | refine N_block ?_ | refine N_block_ret ?_ | refine N_block_exit ?_ | refine N_block_pass rfl ?_ | refine sp true rfl rfl (by rw [hn]; rfl) (by first | trivial | (simp; done) | (simp; omega) | (simp at *; done) | (simp at *; omega)) ?_ | refine sg true rfl rfl rfl (by rw [hn]; rfl) (by intro hG; first | trivial | (simp; done) | (simp; omega) | (simp at *; done) | (simp at *; omega)) ?_)
      refine N_sr (fun a w h => SR.mv 132 900 rfl rfl rfl rfl rfl h) ?_
      refine N_round ⟨⟨finS H0 m2, true, ps ++ [x]⟩, ?_⟩ ?_ ?_
      · refine ⟨?_, ?_, ?_, ?_, ?_⟩
        · dsimp only; rw [hps]; rfl
        · dsimp only; rw [hps]; exact hmx
        · dsimp only; rw [hps]; exact h2
        · simp; omega
        · dsimp only; rw [hps]; intro hh; apply h3; simp at hh; omega
      · simp; omega
      · dsimp only
        rw [hps]
        refine St.le_of ⟨⟨rfl, rfl, rfl, rfl, rfl, rfl, rfl, ?_⟩, ⟨rfl, rfl, rfl⟩⟩
        exact congrArg (fun n => lv (.int .i64 n)) (by simp)
  · have hi : ps.length = min cs.length 20 + 1 := by simp at hc; omega
    repeat (first | refine W_seq ?_ | refine W_region ?_ | refine W_block ?_ | refine W_skip ?_ | refine W_ret ?_ | refine W_exit ?_ | refine WL_nil ?_ | refine N_then ?_ | refine N_then_exit ?_ | refine N_then_ret ?_ | refine N_block ?_ | refine N_block_ret ?_ | refine N_block_exit ?_ | refine N_block_pass rfl ?_ | refine sp true rfl rfl (by rw [hn]; rfl) (by first | trivial | (simp; done) | (simp; omega) | (simp at *; done) | (simp at *; omega)) ?_ | refine sg true rfl rfl rfl (by rw [hn]; rfl) (by intro hG; first | trivial | (simp; done) | (simp; omega) | (simp at *; done) | (simp at *; omega)) ?_)
    have hmb : m = b := by rw [q2, q5 hi, List.take_length]
    subst hmb
    have wp : ∀ z ∈ ps, WfB z := fun z hz y hy => wb y (by rw [← hm]; exact List.mem_flatten.2 ⟨z, hz, hy⟩)
    have m1 : ∀ {x : List Int}, WfB x → ∀ z ∈ [x], WfB z := fun h z hz => by rw [List.mem_singleton.1 hz]; exact h
    have e1 : ∀ x : List Int, [x].flatten = x := fun x => by simp
    have s1 := msum_ok ps wp (by omega) (by rw [hm]; omega)
    have s2 := msum_ok [m] (m1 wb) (by simp) (by rw [e1]; omega)
    have t1 := tag_ok k ps wk (by omega) wp (by omega) (by rw [hm]; omega)
    have t2 := tag_ok k [m] wk (by omega) (m1 wb) (by simp) (by rw [e1]; omega)
    rw [hm] at s1 t1
    rw [e1] at s2 t2
    have hd1 := digS_len m
    have hd2 : (tagS k m).length = 32 := digS_len _
    generalize digS m = D1 at *
    generalize tagS k m = D2 at *
    have hbq : ∀ l : List Int, ((l == l) != false) = true := fun l => by simp
    refine WL_freeze 901 [(7, partsA ps)] rfl hb ⟨⟨rfl, rfl, rfl, rfl, by simp, by rw [List.take_of_length_le (by simp)]⟩, rfl⟩ ?_
    repeat (first | refine W_seq ?_ | refine W_region ?_ | refine W_block ?_ | refine W_skip ?_ | refine W_ret ?_ | refine W_exit ?_ | refine WL_nil ?_ | refine N_then ?_ | refine N_then_exit ?_ | refine N_then_ret ?_ | refine N_block ?_ | refine N_block_ret ?_ | refine N_block_exit ?_ | refine N_block_pass rfl ?_ | refine sp true rfl rfl (by rw [hn]; rfl) (by first | trivial | (simp; done) | (simp; omega) | (simp at *; done) | (simp at *; omega)) ?_ | refine sg true rfl rfl rfl (by rw [hn]; rfl) (by intro hG; first | trivial | (simp; done) | (simp; omega) | (simp at *; done) | (simp at *; omega)) ?_)
    refine s_call0 (known12_ok) rfl rfl rfl (by rw [hn]; rfl) rfl rfl (by first | trivial | (simp; done) | (simp; omega) | (simp at *; done) | (simp at *; omega)) rfl rfl rfl ?_
    repeat (first | refine W_seq ?_ | refine W_region ?_ | refine W_block ?_ | refine W_skip ?_ | refine W_ret ?_ | refine W_exit ?_ | refine WL_nil ?_ | refine N_then ?_ | refine N_then_exit ?_ | refine N_then_ret ?_ | refine N_block ?_ | refine N_block_ret ?_ | refine N_block_exit ?_ | refine N_block_pass rfl ?_ | refine WL_gT rfl rfl ?_ | refine sp true rfl rfl (by rw [hn]; rfl) (by first | trivial | (simp; done) | (simp; omega) | (simp at *; done) | (simp at *; omega)) ?_)
    refine s_call0 (s1) rfl rfl rfl (by rw [hn]; rfl) rfl rfl (by first | trivial | (simp; done) | (simp; omega) | (simp at *; done) | (simp at *; omega)) rfl rfl rfl ?_
    repeat (first | refine W_seq ?_ | refine W_region ?_ | refine W_block ?_ | refine W_skip ?_ | refine W_ret ?_ | refine W_exit ?_ | refine WL_nil ?_ | refine N_then ?_ | refine N_then_exit ?_ | refine N_then_ret ?_ | refine N_block ?_ | refine N_block_ret ?_ | refine N_block_exit ?_ | refine N_block_pass rfl ?_ | refine WL_gT rfl rfl ?_ | refine sp true rfl rfl (by rw [hn]; rfl) (by first | trivial | (simp; done) | (simp; omega) | (simp at *; done) | (simp at *; omega)) ?_)
    refine WL_q (opq_of (opy_lit (d := (.recs 1 [[.ints .u8 m]])) rfl (elt_mk Try.underlying61 rfl rfl) zok22 rfl (by first | trivial | (simp; done) | (simp; omega) | (simp at *; done) | (simp at *; omega)) rfl ⟨by decide, by decide, rfl, rfl⟩) rfl) (by rw [hn]; rfl) ?_
    repeat (first | refine W_seq ?_ | refine W_region ?_ | refine W_block ?_ | refine W_skip ?_ | refine W_ret ?_ | refine W_exit ?_ | refine WL_nil ?_ | refine N_then ?_ | refine N_then_exit ?_ | refine N_then_ret ?_ | refine N_block ?_ | refine N_block_ret ?_ | refine N_block_exit ?_ | refine N_block_pass rfl ?_ | refine WL_gT rfl rfl ?_ | refine sp true rfl rfl (by rw [hn]; rfl) (by first | trivial | (simp; done) | (simp; omega) | (simp at *; done) | (simp at *; omega)) ?_)
    refine s_call0 (s2) rfl rfl rfl (by rw [hn]; rfl) rfl rfl (by first | trivial | (simp; done) | (simp; omega) | (simp at *; done) | (simp at *; omega)) rfl rfl rfl ?_
    repeat (first | refine W_seq ?_ | refine W_region ?_ | refine W_block ?_ | refine W_skip ?_ | refine W_ret ?_ | refine W_exit ?_ | refine WL_nil ?_ | refine N_then ?_ | refine N_then_exit ?_ | refine N_then_ret ?_ | refine N_block ?_ | refine N_block_ret ?_ | refine N_block_exit ?_ | refine N_block_pass rfl ?_ | refine WL_gT rfl rfl ?_ | refine sp true rfl rfl (by rw [hn]; rfl) (by first | trivial | (simp; done) | (simp; omega) | (simp at *; done) | (simp at *; omega)) ?_)
    refine WL_q (opq_of (opy_eqA (neg := false) (k := .u8) rfl Try.underlying56 Try.underlying5 cellsOf5 rfl rfl (by trivial) (by kernel_rfl) hd1 hd1) rfl) (by rw [hn]; rfl) ?_
    rw [hbq]
    repeat (first | refine W_seq ?_ | refine W_region ?_ | refine W_block ?_ | refine W_skip ?_ | refine W_ret ?_ | refine W_exit ?_ | refine WL_nil ?_ | refine N_then ?_ | refine N_then_exit ?_ | refine N_then_ret ?_ | refine N_block ?_ | refine N_block_ret ?_ | refine N_block_exit ?_ | refine N_block_pass rfl ?_ | refine WL_gT rfl rfl ?_ | refine sp true rfl rfl (by rw [hn]; rfl) (by first | trivial | (simp; done) | (simp; omega) | (simp at *; done) | (simp at *; omega)) ?_)
    refine s_call0 (t1) rfl rfl rfl (by rw [hn]; rfl) rfl rfl (by first | trivial | (simp; done) | (simp; omega) | (simp at *; done) | (simp at *; omega)) rfl rfl rfl ?_
    repeat (first | refine W_seq ?_ | refine W_region ?_ | refine W_block ?_ | refine W_skip ?_ | refine W_ret ?_ | refine W_exit ?_ | refine WL_nil ?_ | refine N_then ?_ | refine N_then_exit ?_ | refine N_then_ret ?_ | refine N_block ?_ | refine N_block_ret ?_ | refine N_block_exit ?_ | refine N_block_pass rfl ?_ | refine WL_gT rfl rfl ?_ | refine sp true rfl rfl (by rw [hn]; rfl) (by first | trivial | (simp; done) | (simp; omega) | (simp at *; done) | (simp at *; omega)) ?_)
    refine WL_q (opq_of (opy_lit (d := (.recs 1 [[.ints .u8 m]])) rfl (elt_mk Try.underlying61 rfl rfl) zok22 rfl (by first | trivial | (simp; done) | (simp; omega) | (simp at *; done) | (simp at *; omega)) rfl ⟨by decide, by decide, rfl, rfl⟩) rfl) (by rw [hn]; rfl) ?_
    repeat (first | refine W_seq ?_ | refine W_region ?_ | refine W_block ?_ | refine W_skip ?_ | refine W_ret ?_ | refine W_exit ?_ | refine WL_nil ?_ | refine N_then ?_ | refine N_then_exit ?_ | refine N_then_ret ?_ | refine N_block ?_ | refine N_block_ret ?_ | refine N_block_exit ?_ | refine N_block_pass rfl ?_ | refine WL_gT rfl rfl ?_ | refine sp true rfl rfl (by rw [hn]; rfl) (by first | trivial | (simp; done) | (simp; omega) | (simp at *; done) | (simp at *; omega)) ?_)
    refine s_call0 (t2) rfl rfl rfl (by rw [hn]; rfl) rfl rfl (by first | trivial | (simp; done) | (simp; omega) | (simp at *; done) | (simp at *; omega)) rfl rfl rfl ?_
    repeat (first | refine W_seq ?_ | refine W_region ?_ | refine W_block ?_ | refine W_skip ?_ | refine W_ret ?_ | refine W_exit ?_ | refine WL_nil ?_ | refine N_then ?_ | refine N_then_exit ?_ | refine N_then_ret ?_ | refine N_block ?_ | refine N_block_ret ?_ | refine N_block_exit ?_ | refine N_block_pass rfl ?_ | refine WL_gT rfl rfl ?_ | refine sp true rfl rfl (by rw [hn]; rfl) (by first | trivial | (simp; done) | (simp; omega) | (simp at *; done) | (simp at *; omega)) ?_)
    refine WL_q (opq_of (opy_eqA (neg := false) (k := .u8) rfl Try.underlying56 Try.underlying5 cellsOf5 rfl rfl (by trivial) (by kernel_rfl) hd2 hd2) rfl) (by rw [hn]; rfl) ?_
    rw [hbq]
    repeat (first | refine W_seq ?_ | refine W_region ?_ | refine W_block ?_ | refine W_skip ?_ | refine W_ret ?_ | refine W_exit ?_ | refine WL_nil ?_ | refine N_then ?_ | refine N_then_exit ?_ | refine N_then_ret ?_ | refine N_block ?_ | refine N_block_ret ?_ | refine N_block_exit ?_ | refine N_block_pass rfl ?_ | refine WL_gT rfl rfl ?_ | refine sp true rfl rfl (by rw [hn]; rfl) (by first | trivial | (simp; done) | (simp; omega) | (simp at *; done) | (simp at *; omega)) ?_)
    refine N_retN [] rfl (by first | trivial | (simp; done) | (simp; omega) | (simp at *; done) | (simp at *; omega)) ⟨?_, by first | trivial | exact ⟨rfl, rfl⟩, ?_, rfl⟩ hb rfl (by first | trivial | (simp; done) | (simp [ordL]; done))
    · rfl
    · trivial
end Go.Proofs.Ytppmfjopokkhmaa

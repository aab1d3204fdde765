/-
  Chapter 12's tags, walked: it returns true. The conditions: rows of bytes that a machine can hold.
-/
import Derived.Test.YtppmfjopokkhmaaM14
import Derived.Test.YtppmfjopokkhmaaM15
import Derived.Test.YtppmfjopokkhmaaSxK
namespace Go.Proofs.Ytppmfjopokkhmaa
set_option linter.unusedSimpArgs false
set_option linter.unusedVariables false
open Go.Sx

set_option maxRecDepth 10000

set_option maxHeartbeats 8000000 in
theorem mactags_ok (k0 b0 c0 : List Int) (hlk : k0.length ≤ 9223372036854775807) (hlb : b0.length ≤ 9223372036854775807) (hlc : c0.length ≤ 9223372036854775807) (hwk : WfB k0) (hwb : WfB b0) (hwc : WfB c0) :
    Ct Try.prog 10 [B8 k0, B8 b0, B8 c0] [] (lv (.bool true)) [] [] := by
  have fb := few12_ok b0 hlb
  have fc := few12_ok c0 hlc
  have lb : (b0.take 1000).length ≤ 1000 := by simp; omega
  have lc : (c0.take 1000).length ≤ 1000 := by simp; omega
  have lk : (k0.take (min (k0.length : Int) 300).toNat).length ≤ 300 := by simp; omega
  have wb : WfB (b0.take 1000) := fun x hx => hwb x (List.mem_of_mem_take hx)
  have wc : WfB (c0.take 1000) := fun x hx => hwc x (List.mem_of_mem_take hx)
  have wk : WfB (k0.take (min (k0.length : Int) 300).toNat) := fun x hx => hwk x (List.mem_of_mem_take hx)
  generalize b0.take 1000 = b at *
  generalize c0.take 1000 = c at *
  refine Ct_intro Try.func10 rfl rfl rfl rfl rfl (fun E hn hb => ?_)
  repeat (first | refine W_seq ?_ | refine W_region ?_ | refine W_block ?_ | refine W_skip ?_ | refine W_ret ?_ | refine W_exit ?_ | refine WL_nil ?_ | refine N_then ?_ | refine N_then_exit ?_ | refine N_then_ret ?_ | refine N_block ?_ | refine N_block_ret ?_ | refine N_block_exit ?_ | refine N_block_pass rfl ?_ | refine sp true rfl rfl (by rw [hn]; rfl) (by first | trivial | (simp; done) | (simp; omega) | (simp at *; done) | (simp at *; omega)) ?_ | refine sg true rfl rfl rfl (by rw [hn]; rfl) (by intro hG; first | trivial | (simp; done) | (simp; omega) | (simp at *; done) | (simp at *; omega)) ?_)
  refine W_drawP (by kernel_rfl) (by kernel_rfl) (by rw [hn]; rfl) ?_
  repeat (first | refine DrawW_cons rfl (ops_pure true rfl rfl (by first | trivial | (simp; done) | (simp; omega) | (simp at *; done) | (simp at *; omega))) ?_ | refine DrawW_cons rfl (ops_pureG true rfl rfl rfl (by intro hG; first | trivial | (simp; done) | (simp; omega) | (simp at *; done) | (simp at *; omega))) ?_ | refine DrawW_nil ?_)
  refine DrawW_cons rfl (ops_of (opys_call (fb) rfl rfl rfl (by first | trivial | (simp; done) | (simp; omega) | (simp at *; done) | (simp at *; omega)) rfl rfl rfl) rfl) ?_
  repeat (first | refine DrawW_cons rfl (ops_pure true rfl rfl (by first | trivial | (simp; done) | (simp; omega) | (simp at *; done) | (simp at *; omega))) ?_ | refine DrawW_cons rfl (ops_pureG true rfl rfl rfl (by intro hG; first | trivial | (simp; done) | (simp; omega) | (simp at *; done) | (simp at *; omega))) ?_ | refine DrawW_nil ?_)
  refine DrawW_cons rfl (ops_of (opys_call (fc) rfl rfl rfl (by first | trivial | (simp; done) | (simp; omega) | (simp at *; done) | (simp at *; omega)) rfl rfl rfl) rfl) ?_
  repeat (first | refine DrawW_cons rfl (ops_pure true rfl rfl (by first | trivial | (simp; done) | (simp; omega) | (simp at *; done) | (simp at *; omega))) ?_ | refine DrawW_cons rfl (ops_pureG true rfl rfl rfl (by intro hG; first | trivial | (simp; done) | (simp; omega) | (simp at *; done) | (simp at *; omega))) ?_ | refine DrawW_nil ?_)
  refine WL_nil ?_
  refine N_then ?_
  refine W_weaken (St.le_of (l := [(0, B8 (k0.take (min (k0.length : Int) 300).toNat)), (1, B8 b), (2, B8 c), (6, lv (.bool false))]) (h := []) (by refine ⟨?_, ?_⟩ <;> (repeat' (first | exact trivial | exact rfl | refine ⟨?_, ?_⟩)) <;> first | exact rfl | (simp; done) | skip)) ?_
  generalize k0.take (min (k0.length : Int) 300).toNat = k at *
  have e1 : ∀ x : List Int, [x].flatten = x := fun x => by simp
  have m1 : ∀ {x : List Int}, WfB x → ∀ z ∈ [x], WfB z := fun h z hz => by rw [List.mem_singleton.1 hz]; exact h
  have t1 := tag_ok k [b] wk (by omega) (m1 wb) (by simp) (by rw [e1]; omega)
  have r1 := reftag_ok k b wk (by omega) wb (by omega)
  have hd1 : (tagS k b).length = 32 := digS_len _
  have hdw : WfB (tagS k b) := digS_wf _
  have ck : ∀ t : List Int, WfB t → t.length ≤ 1000000 → Ct Try.prog 48 [B8 k, B8 t, partsA [b]] [] (lv (.bool (decide (tagS k b = t)))) [] [] := fun t ht hl => by
    have := check_ok k t [b] wk (by omega) ht hl (m1 wb) (by simp) (by rw [e1]; omega)
    rw [e1] at this
    exact this
  rw [e1] at t1
  generalize tagS k b = T at *
  have hDn := ne32 hd1
  have d1 : (T.drop 0).take 32 = T := by rw [List.drop_zero, List.take_of_length_le (by omega)]
  have d31 : (T.drop 0).take 31 = T.take 31 := by rw [List.drop_zero]
  have c1 : Ct Try.prog 48 [B8 k, B8 ((T.drop 0).take 32), partsA [b]] [] (lv (.bool true)) [] [] := by
    rw [d1]
    have := ck T hdw (by omega)
    rw [decide_eq_true rfl] at this
    exact this
  have c2 := ck c wc (by omega)
  have s2 : Ct Try.prog 27 [B8 c, B8 ((T.drop 0).take 32)] [] (lv (.bool (decide (T = c)))) [] [] := by
    rw [d1]
    have := same_ok c T (by omega) (by omega)
    rw [show decide (c = T) = decide (T = c) from by rw [decide_eq_decide]; exact eq_comm] at this
    exact this
  have c3 : Ct Try.prog 48 [B8 k, B8 ((T.drop 0).take 31), partsA [b]] [] (lv (.bool false)) [] [] := by
    rw [d31]
    have := ck (T.take 31) (fun x hx => hdw x (List.mem_of_mem_take hx)) (by simp; omega)
    rw [decide_eq_false (fun h => by have := congrArg List.length h; simp at this; omega)] at this
    exact this
  have c4 : Ct Try.prog 48 [B8 k, B8 (T ++ [0]), partsA [b]] [] (lv (.bool false)) [] [] := by
    have := ck (T ++ [0]) (fun x hx => by
      rcases List.mem_append.1 hx with h | h
      · exact hdw x h
      · rw [List.mem_singleton.1 h]; omega) (by simp; omega)
    rw [decide_eq_false (fun h => by have := congrArg List.length h; simp at this)] at this
    exact this
  have co : Ct Try.prog 16 [B8 ((T.drop 0).take 32)] [] (.c (.own 0 1 0 32)) [] [.row (.ints .u8 T)] := by
    rw [d1]
    have := copyO_ok T (by omega)
    rw [hd1] at this
    exact this
  generalize hdd : decide (T = c) = dd at *
  have hbb : ∀ x : Bool, (x == x) = true := fun x => by cases x <;> rfl
  have hTT : ((T == T) != false) = true := by simp
  repeat (first | refine W_seq ?_ | refine W_region ?_ | refine W_block ?_ | refine W_skip ?_ | refine W_ret ?_ | refine W_exit ?_ | refine WL_nil ?_ | refine N_then ?_ | refine N_then_exit ?_ | refine N_then_ret ?_ | refine N_block ?_ | refine N_block_ret ?_ | refine N_block_exit ?_ | refine N_block_pass rfl ?_ | refine sp true rfl rfl (by rw [hn]; rfl) (by first | trivial | (simp; done) | (simp; omega) | (simp at *; done) | (simp at *; omega)) ?_ | refine sg true rfl rfl rfl (by rw [hn]; rfl) (by intro hG; first | trivial | (simp; done) | (simp; omega) | (simp at *; done) | (simp at *; omega)) ?_)
  refine WL_q (opq_of (opy_lit (d := (.recs 1 [[.ints .u8 b]])) rfl (elt_mk Try.underlying61 rfl rfl) zok22 rfl (by first | trivial | (simp; done) | (simp; omega) | (simp at *; done) | (simp at *; omega)) rfl ⟨by decide, by decide, rfl, rfl⟩) rfl) (by rw [hn]; rfl) ?_
  refine s_call0 (t1) rfl rfl rfl (by rw [hn]; rfl) rfl rfl (by first | trivial | (simp; done) | (simp; omega) | (simp at *; done) | (simp at *; omega)) rfl rfl rfl ?_
  refine s_allocAN .u8 32 rfl rfl rfl (by rw [hn]; rfl) (by kernel_rfl) ?_
  repeat (first | refine W_seq ?_ | refine W_region ?_ | refine W_block ?_ | refine W_skip ?_ | refine W_ret ?_ | refine W_exit ?_ | refine WL_nil ?_ | refine N_then ?_ | refine N_then_exit ?_ | refine N_then_ret ?_ | refine N_block ?_ | refine N_block_ret ?_ | refine N_block_exit ?_ | refine N_block_pass rfl ?_ | refine sp true rfl rfl (by rw [hn]; rfl) (by first | trivial | (simp; done) | (simp; omega) | (simp at *; done) | (simp at *; omega)) ?_ | refine sg true rfl rfl rfl (by rw [hn]; rfl) (by intro hG; first | trivial | (simp; done) | (simp; omega) | (simp at *; done) | (simp at *; omega)) ?_)
  refine s_storeA rfl rfl rfl rfl rfl (by first | trivial | (simp; done) | (simp; omega) | (simp at *; done) | (simp at *; omega)) rfl (by rw [cellsOf56]; first | rfl | assumption | omega | kernel_rfl | (simp; done) | (simp; omega) | (simp at *; omega)) (by first | rfl | assumption | omega | kernel_rfl | (simp; done) | (simp; omega) | (simp at *; omega)) (by first | assumption | (simp; done) | exact List.cons_ne_nil _ _) ?_
  repeat (first | refine W_seq ?_ | refine W_region ?_ | refine W_block ?_ | refine W_skip ?_ | refine W_ret ?_ | refine W_exit ?_ | refine WL_nil ?_ | refine N_then ?_ | refine N_then_exit ?_ | refine N_then_ret ?_ | refine N_block ?_ | refine N_block_ret ?_ | refine N_block_exit ?_ | refine N_block_pass rfl ?_ | refine sp true rfl rfl (by rw [hn]; rfl) (by first | trivial | (simp; done) | (simp; omega) | (simp at *; done) | (simp at *; omega)) ?_ | refine sg true rfl rfl rfl (by rw [hn]; rfl) (by intro hG; first | trivial | (simp; done) | (simp; omega) | (simp at *; done) | (simp at *; omega)) ?_)
  refine s_call0 (r1) rfl rfl rfl (by rw [hn]; rfl) rfl rfl (by first | trivial | (simp; done) | (simp; omega) | (simp at *; done) | (simp at *; omega)) rfl rfl rfl ?_
  refine s_allocAN .u8 32 rfl rfl rfl (by rw [hn]; rfl) (by kernel_rfl) ?_
  repeat (first | refine W_seq ?_ | refine W_region ?_ | refine W_block ?_ | refine W_skip ?_ | refine W_ret ?_ | refine W_exit ?_ | refine WL_nil ?_ | refine N_then ?_ | refine N_then_exit ?_ | refine N_then_ret ?_ | refine N_block ?_ | refine N_block_ret ?_ | refine N_block_exit ?_ | refine N_block_pass rfl ?_ | refine sp true rfl rfl (by rw [hn]; rfl) (by first | trivial | (simp; done) | (simp; omega) | (simp at *; done) | (simp at *; omega)) ?_ | refine sg true rfl rfl rfl (by rw [hn]; rfl) (by intro hG; first | trivial | (simp; done) | (simp; omega) | (simp at *; done) | (simp at *; omega)) ?_)
  refine s_storeA rfl rfl rfl rfl rfl (by first | trivial | (simp; done) | (simp; omega) | (simp at *; done) | (simp at *; omega)) rfl (by rw [cellsOf56]; first | rfl | assumption | omega | kernel_rfl | (simp; done) | (simp; omega) | (simp at *; omega)) (by first | rfl | assumption | omega | kernel_rfl | (simp; done) | (simp; omega) | (simp at *; omega)) (by first | assumption | (simp; done) | exact List.cons_ne_nil _ _) ?_
  repeat (first | refine W_seq ?_ | refine W_region ?_ | refine W_block ?_ | refine W_skip ?_ | refine W_ret ?_ | refine W_exit ?_ | refine WL_nil ?_ | refine N_then ?_ | refine N_then_exit ?_ | refine N_then_ret ?_ | refine N_block ?_ | refine N_block_ret ?_ | refine N_block_exit ?_ | refine N_block_pass rfl ?_ | refine sp true rfl rfl (by rw [hn]; rfl) (by first | trivial | (simp; done) | (simp; omega) | (simp at *; done) | (simp at *; omega)) ?_ | refine sg true rfl rfl rfl (by rw [hn]; rfl) (by intro hG; first | trivial | (simp; done) | (simp; omega) | (simp at *; done) | (simp at *; omega)) ?_)
  refine W_weaken (St.le_of (l := [(0, B8 k), (1, B8 b), (2, B8 c), (6, lv (.bool false)), (7, .c (.ptr 71 0)), (8, .c (.ptr 72 0))]) (h := [(71, .row (.ints .u8 T)), (72, .row (.ints .u8 T))]) (by refine ⟨?_, ?_⟩ <;> (repeat' (first | exact trivial | exact rfl | refine ⟨?_, ?_⟩)) <;> first | exact rfl | (simp; done) | skip)) ?_
  refine W_drawK (BC := .row (.ints .u8 T)) (oc := .own 900 1 0 32) 900 60 62 35 37 (by kernel_rfl) (by kernel_rfl) (by rw [hn]; rfl) rfl rfl rfl rfl (by kernel_rfl) (by kernel_rfl) rfl rfl (by rw [hb]; decide) rfl (look_kill ⟨rfl, rfl, rfl, rfl, rfl, rfl⟩) (look_killB ⟨rfl, rfl⟩) ?_
  refine DrawK_cons rfl rfl rfl (ops_of (opys_call (known12_ok) rfl rfl rfl (by first | trivial | (simp; done) | (simp; omega) | (simp at *; done) | (simp at *; omega)) rfl rfl rfl) rfl) rfl ?_
  repeat (first | refine DrawK_cons rfl rfl rfl (ops_pure true rfl rfl (by first | trivial | (simp; done) | (simp; omega) | (simp at *; done) | (simp at *; omega))) rfl ?_ | refine DrawK_cons rfl rfl rfl (ops_pureG true rfl rfl rfl (by intro hG; first | trivial | (simp; done) | (simp; omega) | (simp at *; done) | (simp at *; omega))) rfl ?_ | refine DrawK_nil ?_)
  refine DrawK_cons rfl rfl rfl (ops_pureG true rfl rfl rfl (fun hG => ⟨rfl, by rw [cellsOf56]; omega, hDn⟩)) rfl ?_
  refine DrawK_cons rfl rfl rfl (ops_pureG true rfl rfl rfl (fun hG => ⟨rfl, by rw [cellsOf56]; omega, hDn⟩)) rfl ?_
  refine DrawK_cons rfl rfl rfl (ops_ofG rfl rfl (fun hG => opys_eqA (neg := false) (k := .u8) rfl Try.underlying56 Try.underlying5 cellsOf5 rfl rfl (by first | exact hG | exact ⟨hG, hG⟩ | exact ⟨hG, hG, hG⟩ | exact ⟨hG, trivial⟩ | (simp; done) | (simp at *; done) | (simp at *; omega)) (by kernel_rfl) hd1 hd1)) rfl ?_
  rw [hTT]
  repeat (first | refine DrawK_cons rfl rfl rfl (ops_pure true rfl rfl (by first | trivial | (simp; done) | (simp; omega) | (simp at *; done) | (simp at *; omega))) rfl ?_ | refine DrawK_cons rfl rfl rfl (ops_pureG true rfl rfl rfl (by intro hG; first | trivial | (simp; done) | (simp; omega) | (simp at *; done) | (simp at *; omega))) rfl ?_ | refine DrawK_nil ?_)
  refine DrawK_cons rfl rfl rfl (ops_pureG true rfl rfl rfl (fun hG => ⟨rfl, by omega, hDn, show 32 ≤ maxLen from by decide⟩)) rfl ?_
  repeat (first | refine DrawK_cons rfl rfl rfl (ops_pure true rfl rfl (by first | trivial | (simp; done) | (simp; omega) | (simp at *; done) | (simp at *; omega))) rfl ?_ | refine DrawK_cons rfl rfl rfl (ops_pureG true rfl rfl rfl (by intro hG; first | trivial | (simp; done) | (simp; omega) | (simp at *; done) | (simp at *; omega))) rfl ?_ | refine DrawK_nil ?_)
  refine DrawK_cons rfl rfl rfl (ops_ofG rfl rfl (fun hG => opys_lit (d := (.recs 1 [[.ints .u8 b]])) rfl (elt_mk Try.underlying61 rfl rfl) zok22 rfl (by first | exact hG | exact ⟨hG, hG⟩ | exact ⟨hG, hG, hG⟩ | exact ⟨hG, trivial⟩ | (simp; done) | (simp at *; done) | (simp at *; omega)) rfl ⟨by decide, by decide, rfl, rfl⟩)) rfl ?_
  refine DrawK_cons rfl rfl rfl (ops_ofG rfl rfl (fun hG => opys_callL c1 rfl rfl rfl (by first | exact hG | exact ⟨hG, hG⟩ | exact ⟨hG, hG, hG⟩ | exact ⟨hG, trivial⟩ | (simp; done) | (simp at *; done) | (simp at *; omega)) ⟨.inl rfl, .inr (.inl ⟨72, 0, 32, .u8, T, rfl, rfl, by omega, rfl⟩), .inl rfl, trivial⟩ rfl)) rfl ?_
  repeat (first | refine DrawK_cons rfl rfl rfl (ops_pure true rfl rfl (by first | trivial | (simp; done) | (simp; omega) | (simp at *; done) | (simp at *; omega))) rfl ?_ | refine DrawK_cons rfl rfl rfl (ops_pureG true rfl rfl rfl (by intro hG; first | trivial | (simp; done) | (simp; omega) | (simp at *; done) | (simp at *; omega))) rfl ?_ | refine DrawK_nil ?_)
  refine DrawK_cons rfl rfl rfl (ops_ofG rfl rfl (fun hG => opys_lit (d := (.recs 1 [[.ints .u8 b]])) rfl (elt_mk Try.underlying61 rfl rfl) zok22 rfl (by first | exact hG | exact ⟨hG, hG⟩ | exact ⟨hG, hG, hG⟩ | exact ⟨hG, trivial⟩ | (simp; done) | (simp at *; done) | (simp at *; omega)) rfl ⟨by decide, by decide, rfl, rfl⟩)) rfl ?_
  refine DrawK_cons rfl rfl rfl (ops_ofG rfl rfl (fun hG => opys_call (c2) rfl rfl rfl (by first | exact hG | (first | trivial | (simp; done) | (simp; omega) | (simp at *; done) | (simp at *; omega))) rfl rfl rfl)) rfl ?_
  repeat (first | refine DrawK_cons rfl rfl rfl (ops_pure true rfl rfl (by first | trivial | (simp; done) | (simp; omega) | (simp at *; done) | (simp at *; omega))) rfl ?_ | refine DrawK_cons rfl rfl rfl (ops_pureG true rfl rfl rfl (by intro hG; first | trivial | (simp; done) | (simp; omega) | (simp at *; done) | (simp at *; omega))) rfl ?_ | refine DrawK_nil ?_)
  refine DrawK_cons rfl rfl rfl (ops_pureG true rfl rfl rfl (fun hG => ⟨rfl, by omega, hDn, show 32 ≤ maxLen from by decide⟩)) rfl ?_
  refine DrawK_cons rfl rfl rfl (ops_ofG rfl rfl (fun hG => opys_callL s2 rfl rfl rfl (by first | exact hG | exact ⟨hG, hG⟩ | exact ⟨hG, hG, hG⟩ | exact ⟨hG, trivial⟩ | (simp; done) | (simp at *; done) | (simp at *; omega)) ⟨.inl rfl, .inr (.inl ⟨72, 0, 32, .u8, T, rfl, rfl, by omega, rfl⟩), trivial⟩ rfl)) rfl ?_
  repeat (first | refine DrawK_cons rfl rfl rfl (ops_pure true rfl rfl (by first | trivial | (simp; done) | (simp; omega) | (simp at *; done) | (simp at *; omega))) rfl ?_ | refine DrawK_cons rfl rfl rfl (ops_pureG true rfl rfl rfl (by intro hG; first | trivial | (simp; done) | (simp; omega) | (simp at *; done) | (simp at *; omega))) rfl ?_ | refine DrawK_nil ?_)
  rw [hbb]
  repeat (first | refine DrawK_cons rfl rfl rfl (ops_pure true rfl rfl (by first | trivial | (simp; done) | (simp; omega) | (simp at *; done) | (simp at *; omega))) rfl ?_ | refine DrawK_cons rfl rfl rfl (ops_pureG true rfl rfl rfl (by intro hG; first | trivial | (simp; done) | (simp; omega) | (simp at *; done) | (simp at *; omega))) rfl ?_ | refine DrawK_nil ?_)
  refine DrawK_cons rfl rfl rfl (ops_pureG true rfl rfl rfl (fun hG => ?_)) rfl ?_
  · exact ⟨rfl, by omega, hDn, show 32 ≤ maxLen from by decide, by decide, show (31 : Int) ≤ ((32 : Nat) : Int) from by decide⟩
  repeat (first | refine DrawK_cons rfl rfl rfl (ops_pure true rfl rfl (by first | trivial | (simp; done) | (simp; omega) | (simp at *; done) | (simp at *; omega))) rfl ?_ | refine DrawK_cons rfl rfl rfl (ops_pureG true rfl rfl rfl (by intro hG; first | trivial | (simp; done) | (simp; omega) | (simp at *; done) | (simp at *; omega))) rfl ?_ | refine DrawK_nil ?_)
  refine DrawK_cons rfl rfl rfl (ops_ofG rfl rfl (fun hG => opys_lit (d := (.recs 1 [[.ints .u8 b]])) rfl (elt_mk Try.underlying61 rfl rfl) zok22 rfl (by first | exact hG | exact ⟨hG, hG⟩ | exact ⟨hG, hG, hG⟩ | exact ⟨hG, trivial⟩ | (simp; done) | (simp at *; done) | (simp at *; omega)) rfl ⟨by decide, by decide, rfl, rfl⟩)) rfl ?_
  refine DrawK_cons rfl rfl rfl (ops_ofG rfl rfl (fun hG => opys_callL c3 rfl rfl rfl (by first | exact hG | exact ⟨hG, hG⟩ | exact ⟨hG, hG, hG⟩ | exact ⟨hG, trivial⟩ | (simp; done) | (simp at *; done) | (simp at *; omega)) ⟨.inl rfl, .inr (.inl ⟨72, 0, 31, .u8, T, rfl, rfl, by omega, rfl⟩), .inl rfl, trivial⟩ rfl)) rfl ?_
  repeat (first | refine DrawK_cons rfl rfl rfl (ops_pure true rfl rfl (by first | trivial | (simp; done) | (simp; omega) | (simp at *; done) | (simp at *; omega))) rfl ?_ | refine DrawK_cons rfl rfl rfl (ops_pureG true rfl rfl rfl (by intro hG; first | trivial | (simp; done) | (simp; omega) | (simp at *; done) | (simp at *; omega))) rfl ?_ | refine DrawK_nil ?_)
  refine DrawK_cons rfl rfl rfl (ops_pureG true rfl rfl rfl (fun hG => ⟨rfl, by omega, hDn, show 32 ≤ maxLen from by decide⟩)) rfl ?_
  refine DrawK_c rfl rfl (opt_make co rfl rfl rfl (by rw [hn]; rfl) rfl rfl rfl (by trivial) ⟨.inr (.inl ⟨72, 0, 32, .u8, T, rfl, rfl, by omega, rfl⟩), trivial⟩ rfl (by rw [hb]; decide)) ?_
  refine DrawK_cons rfl rfl rfl (ops_ofG rfl rfl (fun hG => opys_lit (d := (.ints .u8 [0])) rfl (elt_mk Try.underlying22 rfl rfl) zok5 rfl (by first | exact hG | exact ⟨hG, hG⟩ | exact ⟨hG, hG, hG⟩ | exact ⟨hG, trivial⟩ | (simp; done) | (simp at *; done) | (simp at *; omega)) rfl ⟨by decide, by decide, rfl, rfl⟩)) rfl ?_
  refine DrawK_u rfl rfl rfl (opt_append rfl rfl rfl rfl rfl rfl (by rw [hn]; rfl) rfl (elt_mk Try.underlying22 rfl rfl) rfl rfl rfl rfl (by trivial) (by omega) ⟨by simp; omega, by decide⟩ hb) rfl ?_
  repeat (first | refine DrawK_cons rfl rfl rfl (ops_pure true rfl rfl (by first | trivial | (simp; done) | (simp; omega) | (simp at *; done) | (simp at *; omega))) rfl ?_ | refine DrawK_cons rfl rfl rfl (ops_pureG true rfl rfl rfl (by intro hG; first | trivial | (simp; done) | (simp; omega) | (simp at *; done) | (simp at *; omega))) rfl ?_ | refine DrawK_nil ?_)
  refine DrawK_cons rfl rfl rfl (ops_ofG rfl rfl (fun hG => opys_lit (d := (.recs 1 [[.ints .u8 b]])) rfl (elt_mk Try.underlying61 rfl rfl) zok22 rfl (by first | exact hG | exact ⟨hG, hG⟩ | exact ⟨hG, hG, hG⟩ | exact ⟨hG, trivial⟩ | (simp; done) | (simp at *; done) | (simp at *; omega)) rfl ⟨by decide, by decide, rfl, rfl⟩)) rfl ?_
  refine DrawK_cons rfl rfl rfl (ops_ofG rfl rfl (fun hG => opys_call (c4) rfl rfl rfl (by first | exact hG | (first | trivial | (simp; done) | (simp; omega) | (simp at *; done) | (simp at *; omega))) rfl rfl rfl)) rfl ?_
  repeat (first | refine DrawK_cons rfl rfl rfl (ops_pure true rfl rfl (by first | trivial | (simp; done) | (simp; omega) | (simp at *; done) | (simp at *; omega))) rfl ?_ | refine DrawK_cons rfl rfl rfl (ops_pureG true rfl rfl rfl (by intro hG; first | trivial | (simp; done) | (simp; omega) | (simp at *; done) | (simp at *; omega))) rfl ?_ | refine DrawK_nil ?_)
  refine WL_nil ?_
  repeat (first | refine W_seq ?_ | refine W_region ?_ | refine W_block ?_ | refine W_skip ?_ | refine W_ret ?_ | refine W_exit ?_ | refine WL_nil ?_ | refine N_then ?_ | refine N_then_exit ?_ | refine N_then_ret ?_ | refine N_block ?_ | refine N_block_ret ?_ | refine N_block_exit ?_ | refine N_block_pass rfl ?_ | refine sp true rfl rfl (by rw [hn]; rfl) (by first | trivial | (simp; done) | (simp; omega) | (simp at *; done) | (simp at *; omega)) ?_ | refine sg true rfl rfl rfl (by rw [hn]; rfl) (by intro hG; first | trivial | (simp; done) | (simp; omega) | (simp at *; done) | (simp at *; omega)) ?_)
  refine N_retN [] rfl (by first | trivial | (simp; done) | (simp; omega) | (simp at *; done) | (simp at *; omega)) ⟨?_, by first | trivial | exact ⟨rfl, rfl⟩, ?_, rfl⟩ hb rfl (by first | trivial | (simp; done) | (simp [ordL]; done))
  · rfl
  · trivial
end Go.Proofs.Ytppmfjopokkhmaa

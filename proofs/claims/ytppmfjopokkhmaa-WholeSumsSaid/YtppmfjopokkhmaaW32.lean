/-
  Chapter 03's sums, walked: it returns true. The conditions: rows of bytes that a machine can hold.
-/
import Derived.Test.YtppmfjopokkhmaaW29
import Derived.Test.YtppmfjopokkhmaaW31
namespace Go.Proofs.Ytppmfjopokkhmaa
set_option linter.unusedSimpArgs false
set_option linter.unusedVariables false
open Go.Sx

set_option maxRecDepth 10000

theorem radd_Z {b c : Bool} {l m : List Int} {x y : Int} (hx : zOf b l = x) (hy : zOf c m = y) (hl : l.length ≤ 201) (hm : m.length ≤ 201) (hwl : WfB l) (hwm : WfB m) : Ct Try.prog 54 [numA b l, numA c m] [] (numZ (x + y)) [] [] := by
  have := refadd_ok b c l m (by omega) (by omega) hwl hwm
  rwa [hx, hy] at this
theorem rcmp_Z {b c : Bool} {l m : List Int} {x y : Int} (hx : zOf b l = x) (hy : zOf c m = y) (hl : l.length ≤ 201) (hm : m.length ≤ 201) (hwl : WfB l) (hwm : WfB m) : Ct Try.prog 53 [numA b l, numA c m] [] (lv (.int .i64 (cmpI x y))) [] [] := by
  have := refcompare_ok b c l m (by omega) (by omega) hwl hwm
  rwa [hx, hy] at this
theorem rsame_Z (z : Int) (hl : (digL z.natAbs).length ≤ 201) : Ct Try.prog 25 [numZ z, numZ z] [] (lv (.bool true)) [] [] := by
  have := refsame_ok (decide (z < 0)) (decide (z < 0)) (digL z.natAbs) (digL z.natAbs) (by omega) (by omega)
  simpa using this
theorem rsame_0 (z : Int) (hz : z = 0) : Ct Try.prog 25 [numZ z, .agg [.lf (.v (.bool false)), .lf (.v (.slice none 0 0))]] [] (lv (.bool true)) [] [] := by
  subst hz
  refine Ct_up (args := [numZ 0, numA false []]) ?_ ⟨⟨.inl rfl, .inl rfl, trivial⟩, ⟨.inl rfl, .inr ⟨rfl, .inl ⟨_, rfl⟩⟩, trivial⟩, trivial⟩
  have e : numZ 0 = numA false [] := by
    have : digL (0 : Int).natAbs = [] := dig_zero
    unfold numZ
    rw [this]
    rfl
  rw [e]
  have := refsame_ok false false [] [] (by simp) (by simp)
  simpa [madeB] using this
theorem right_Z (z : Int) (hl : (digL z.natAbs).length ≤ 201) : Ct Try.prog 23 [numZ z] [] (lv (.bool true)) [] [] := by
  have h1 := right_ok (decide (z < 0)) (digL z.natAbs) (by omega)
  have h2 := right_made (decide (z < 0)) (digL z.natAbs)
  obtain ⟨h3, h4⟩ := made_Z (decide (z < 0)) (digL z.natAbs) (wfZ z)
  rw [zOf_numZ] at h3 h4
  rw [h3, h4] at h2
  rwa [h2] at h1

/-- The powers of two ahead of a byte, and how many were counted. -/
def PwK (k j : Int) : Prop := (k = 128 ∧ j = 0) ∨ (k = 64 ∧ j = 1) ∨ (k = 32 ∧ j = 2) ∨ (k = 16 ∧ j = 3) ∨ (k = 8 ∧ j = 4) ∨ (k = 4 ∧ j = 5) ∨ (k = 2 ∧ j = 6) ∨ (k = 1 ∧ j = 7)
theorem pwk_rng {k j : Int} (h : PwK k j) : 1 ≤ k ∧ k ≤ 128 ∧ 0 ≤ j ∧ j ≤ 7 := by unfold PwK at h; omega
theorem pwk_next {k j x : Int} (h : PwK k j) (h1 : 1 ≤ x) (h2 : x < k) : PwK (k / 2) (j + 1) ∧ x < 2 * (k / 2) := by
  unfold PwK at h ⊢
  rcases h with ⟨rfl, rfl⟩ | ⟨rfl, rfl⟩ | ⟨rfl, rfl⟩ | ⟨rfl, rfl⟩ | ⟨rfl, rfl⟩ | ⟨rfl, rfl⟩ | ⟨rfl, rfl⟩ | ⟨rfl, rfl⟩ <;> omega
theorem pwk_len {k j x : Int} (h : PwK k j) (h1 : k ≤ x) (h2 : x < 2 * k) : lenB x = 8 - j := by
  unfold PwK at h
  unfold lenB
  rcases h with ⟨rfl, rfl⟩ | ⟨rfl, rfl⟩ | ⟨rfl, rfl⟩ | ⟨rfl, rfl⟩ | ⟨rfl, rfl⟩ | ⟨rfl, rfl⟩ | ⟨rfl, rfl⟩ | ⟨rfl, rfl⟩ <;> (repeat' split) <;> omega
structure KJ where
  k : Int
  j : Int

set_option maxHeartbeats 4000000 in
theorem sums_ok (ba : Bool) (a0 : List Int) (bb : Bool) (b0 : List Int) (hla : a0.length ≤ 9223372036854775807) (hlb : b0.length ≤ 9223372036854775807) (hwa : WfB a0) (hwb : WfB b0) :
    Ct Try.prog 12 [numA ba a0, numA bb b0] [] (lv (.bool true)) [] [] := by
  have ha : (a0.take 200).length ≤ 200 := by simp; omega
  have hb2 : (b0.take 200).length ≤ 200 := by simp; omega
  have hwa2 := wf_take hwa 200
  have hwb2 := wf_take hwb 200
  have hfa := few_ok ba a0 hla
  have hfb := few_ok bb b0 hlb
  generalize a0.take 200 = la at *
  generalize b0.take 200 = lb at *
  obtain ⟨M, hM⟩ : ∃ M : Int, M = 256 ^ 200 := ⟨_, rfl⟩
  obtain ⟨x, hx⟩ : ∃ x, zOf ba la = x := ⟨_, rfl⟩
  obtain ⟨y, hy⟩ : ∃ y, zOf bb lb = y := ⟨_, rfl⟩
  have bx := zOf_bound ba la M hM ha hwa2
  have bY := zOf_bound bb lb M hM hb2 hwb2
  rw [hx] at bx
  rw [hy] at bY
  have L : ∀ w : Int, -(4 * M) < w → w < 4 * M → (digL w.natAbs).length ≤ 201 := fun w h1 h2 => lenZ w M hM h1 h2
  have l1 := L (x + y) (by omega) (by omega)
  have l2 := L (-x) (by omega) (by omega)
  clear L
  have c1 := add_Z hx hy (by omega) (by omega) hwa2 hwb2
  have c2 := cmp_Z hx hy (by omega) (by omega) hwa2 hwb2
  have c3 := rcmp_Z hx hy (by omega) (by omega) hwa2 hwb2
  have c4 := radd_Z hx hy (by omega) (by omega) hwa2 hwb2
  have c5 := neg_Z hx (by omega) hwa2
  have c6 := radd_Z (zOf_numZ (-x)) hx l2 (by omega) (wfZ _) hwa2
  have c7 := rsame_Z (x + y) l1
  have c8 := rsame_0 (-x + x) (by omega)
  have c9 := right_Z (x + y) l1
  have c10 := right_Z (-x) l2
  have c11 := bits_ok ba la (by omega) hwa2
  have c12 := refmade_ok ba la (by omega)
  have hws := wf_trim hwa2
  have hls := len_trim la
  have hts := trim_idem la
  refine Ct_intro Try.func12 rfl rfl rfl rfl rfl (fun E hn hb => ?_)
  repeat (first | refine W_seq ?_ | refine W_region ?_ | refine W_block ?_ | refine W_skip ?_ | refine W_ret ?_ | refine W_exit ?_ | refine WL_nil ?_ | refine N_then ?_ | refine N_then_exit ?_ | refine N_then_ret ?_ | refine N_block ?_ | refine N_block_ret ?_ | refine N_block_exit ?_ | refine N_block_pass rfl ?_ | refine sp true rfl rfl (by rw [hn]; rfl) (by first | trivial | (simp; done) | (simp; omega) | (simp at *; done) | (simp at *; omega)) ?_ | refine sg true rfl rfl rfl (by rw [hn]; rfl) (by intro hG; first | trivial | (simp; done) | (simp; omega) | (simp at *; done) | (simp at *; omega)) ?_)
  refine s_boxN rfl rfl rfl (by rw [hn]; rfl) rfl (by first | trivial | (simp; done) | (simp; omega) | (simp at *; done) | (simp at *; omega)) rfl rfl ?_
  refine s_boxN rfl rfl rfl (by rw [hn]; rfl) rfl (by first | trivial | (simp; done) | (simp; omega) | (simp at *; done) | (simp at *; omega)) rfl rfl ?_
  repeat (first | refine W_seq ?_ | refine W_region ?_ | refine W_block ?_ | refine W_skip ?_ | refine W_ret ?_ | refine W_exit ?_ | refine WL_nil ?_ | refine N_then ?_ | refine N_then_exit ?_ | refine N_then_ret ?_ | refine N_block ?_ | refine N_block_ret ?_ | refine N_block_exit ?_ | refine N_block_pass rfl ?_ | refine sp true rfl rfl (by rw [hn]; rfl) (by first | trivial | (simp; done) | (simp; omega) | (simp at *; done) | (simp at *; omega)) ?_ | refine sg true rfl rfl rfl (by rw [hn]; rfl) (by intro hG; first | trivial | (simp; done) | (simp; omega) | (simp at *; done) | (simp at *; omega)) ?_)
  refine W_drawW 4 (by kernel_rfl) (by kernel_rfl) (by kernel_rfl) (by rw [hn]; rfl) rfl rfl ?_
  repeat (first | refine DrawW_cons rfl (ops_pure true rfl rfl (by first | trivial | (simp; done) | (simp; omega) | (simp at *; done) | (simp at *; omega))) ?_ | refine DrawW_cons rfl (ops_pureG true rfl rfl rfl (by intro hG; first | trivial | (simp; done) | (simp; omega) | (simp at *; done) | (simp at *; omega))) ?_ | refine DrawW_nil ?_)
  refine DrawW_cons rfl (ops_of (opys_call (hfa) rfl rfl rfl (by first | trivial | (simp; done) | (simp; omega) | (simp at *; done) | (simp at *; omega)) rfl rfl rfl) rfl) ?_
  repeat (first | refine DrawW_cons rfl (ops_pure true rfl rfl (by first | trivial | (simp; done) | (simp; omega) | (simp at *; done) | (simp at *; omega))) ?_ | refine DrawW_cons rfl (ops_pureG true rfl rfl rfl (by intro hG; first | trivial | (simp; done) | (simp; omega) | (simp at *; done) | (simp at *; omega))) ?_ | refine DrawW_nil ?_)
  refine DrawW_cons rfl (ops_of (opys_call (hfb) rfl rfl rfl (by first | trivial | (simp; done) | (simp; omega) | (simp at *; done) | (simp at *; omega)) rfl rfl rfl) rfl) ?_
  repeat (first | refine DrawW_cons rfl (ops_pure true rfl rfl (by first | trivial | (simp; done) | (simp; omega) | (simp at *; done) | (simp at *; omega))) ?_ | refine DrawW_cons rfl (ops_pureG true rfl rfl rfl (by intro hG; first | trivial | (simp; done) | (simp; omega) | (simp at *; done) | (simp at *; omega))) ?_ | refine DrawW_nil ?_)
  refine s_storeN rfl rfl rfl rfl rfl (by first | trivial | (simp; done) | (simp; omega) | (simp at *; done) | (simp at *; omega)) rfl rfl rfl (by rw [cellsOf24]; rfl) (by rw [info24]; rfl) rfl rfl ?_
  refine s_storeN rfl rfl rfl rfl rfl (by first | trivial | (simp; done) | (simp; omega) | (simp at *; done) | (simp at *; omega)) rfl rfl rfl (by rw [cellsOf24]; rfl) (by rw [info24]; rfl) rfl rfl ?_
  repeat (first | refine W_seq ?_ | refine W_region ?_ | refine W_block ?_ | refine W_skip ?_ | refine W_ret ?_ | refine W_exit ?_ | refine WL_nil ?_ | refine N_then ?_ | refine N_then_exit ?_ | refine N_then_ret ?_ | refine N_block ?_ | refine N_block_ret ?_ | refine N_block_exit ?_ | refine N_block_pass rfl ?_ | refine sp true rfl rfl (by rw [hn]; rfl) (by first | trivial | (simp; done) | (simp; omega) | (simp at *; done) | (simp at *; omega)) ?_ | refine sg true rfl rfl rfl (by rw [hn]; rfl) (by intro hG; first | trivial | (simp; done) | (simp; omega) | (simp at *; done) | (simp at *; omega)) ?_)
  refine W_drawA 6 [69] rfl (by kernel_rfl) (by kernel_rfl) (by kernel_rfl) (by kernel_rfl) (by rw [hn]; rfl) rfl rfl ?_
  repeat (first | refine DrawA_op rfl (ops_pure true rfl rfl (by first | trivial | (simp; done) | (simp; omega) | (simp at *; done) | (simp at *; omega))) ?_ | refine DrawA_op rfl (ops_pureG true rfl rfl rfl (by intro hG; first | trivial | (simp; done) | (simp; omega) | (simp at *; done) | (simp at *; omega))) ?_ | refine DrawA_nil ?_)
  refine DrawA_op rfl (ops_of (opys_call (to_ok ba la) rfl rfl rfl (by first | trivial | (simp; done) | (simp; omega) | (simp at *; done) | (simp at *; omega)) rfl rfl rfl) rfl) ?_
  repeat (first | refine DrawA_op rfl (ops_pure true rfl rfl (by first | trivial | (simp; done) | (simp; omega) | (simp at *; done) | (simp at *; omega))) ?_ | refine DrawA_op rfl (ops_pureG true rfl rfl rfl (by intro hG; first | trivial | (simp; done) | (simp; omega) | (simp at *; done) | (simp at *; omega))) ?_ | refine DrawA_nil ?_)
  refine DrawA_op rfl (ops_of (opys_call (to_ok bb lb) rfl rfl rfl (by first | trivial | (simp; done) | (simp; omega) | (simp at *; done) | (simp at *; omega)) rfl rfl rfl) rfl) ?_
  repeat (first | refine DrawA_op rfl (ops_pure true rfl rfl (by first | trivial | (simp; done) | (simp; omega) | (simp at *; done) | (simp at *; omega))) ?_ | refine DrawA_op rfl (ops_pureG true rfl rfl rfl (by intro hG; first | trivial | (simp; done) | (simp; omega) | (simp at *; done) | (simp at *; omega))) ?_ | refine DrawA_nil ?_)
  refine DrawA_op rfl (ops_of (opys_call (c1) rfl rfl rfl (by first | trivial | (simp; done) | (simp; omega) | (simp at *; done) | (simp at *; omega)) rfl rfl rfl) rfl) ?_
  repeat (first | refine DrawA_op rfl (ops_pure true rfl rfl (by first | trivial | (simp; done) | (simp; omega) | (simp at *; done) | (simp at *; omega))) ?_ | refine DrawA_op rfl (ops_pureG true rfl rfl rfl (by intro hG; first | trivial | (simp; done) | (simp; omega) | (simp at *; done) | (simp at *; omega))) ?_ | refine DrawA_nil ?_)
  refine DrawA_al rfl rfl rfl rfl zok30 rfl ?_
  repeat (first | refine DrawA_op rfl (ops_pure true rfl rfl (by first | trivial | (simp; done) | (simp; omega) | (simp at *; done) | (simp at *; omega))) ?_ | refine DrawA_op rfl (ops_pureG true rfl rfl rfl (by intro hG; first | trivial | (simp; done) | (simp; omega) | (simp at *; done) | (simp at *; omega))) ?_ | refine DrawA_nil ?_)
  refine s_storeN rfl rfl rfl rfl rfl (by first | trivial | (simp; done) | (simp; omega) | (simp at *; done) | (simp at *; omega)) rfl rfl rfl (by rw [cellsOf30]; rfl) (by rw [info30]; rfl) rfl rfl ?_
  repeat (first | refine W_seq ?_ | refine W_region ?_ | refine W_block ?_ | refine W_skip ?_ | refine W_ret ?_ | refine W_exit ?_ | refine WL_nil ?_ | refine N_then ?_ | refine N_then_exit ?_ | refine N_then_ret ?_ | refine N_block ?_ | refine N_block_ret ?_ | refine N_block_exit ?_ | refine N_block_pass rfl ?_ | refine sp true rfl rfl (by rw [hn]; rfl) (by first | trivial | (simp; done) | (simp; omega) | (simp at *; done) | (simp at *; omega)) ?_ | refine sg true rfl rfl rfl (by rw [hn]; rfl) (by intro hG; first | trivial | (simp; done) | (simp; omega) | (simp at *; done) | (simp at *; omega)) ?_)
  refine s_call0 (c12) rfl rfl rfl (by rw [hn]; rfl) rfl rfl (by first | trivial | (simp; done) | (simp; omega) | (simp at *; done) | (simp at *; omega)) rfl rfl rfl ?_
  repeat (first | refine W_seq ?_ | refine W_region ?_ | refine W_block ?_ | refine W_skip ?_ | refine W_ret ?_ | refine W_exit ?_ | refine WL_nil ?_ | refine N_then ?_ | refine N_then_exit ?_ | refine N_then_ret ?_ | refine N_block ?_ | refine N_block_ret ?_ | refine N_block_exit ?_ | refine N_block_pass rfl ?_ | refine sp true rfl rfl (by rw [hn]; rfl) (by first | trivial | (simp; done) | (simp; omega) | (simp at *; done) | (simp at *; omega)) ?_ | refine sg true rfl rfl rfl (by rw [hn]; rfl) (by intro hG; first | trivial | (simp; done) | (simp; omega) | (simp at *; done) | (simp at *; omega)) ?_)
  refine s_allocN rfl rfl rfl (by rw [hn]; rfl) rfl zok24 ?_
  repeat (first | refine W_seq ?_ | refine W_region ?_ | refine W_block ?_ | refine W_skip ?_ | refine W_ret ?_ | refine W_exit ?_ | refine WL_nil ?_ | refine N_then ?_ | refine N_then_exit ?_ | refine N_then_ret ?_ | refine N_block ?_ | refine N_block_ret ?_ | refine N_block_exit ?_ | refine N_block_pass rfl ?_ | refine sp true rfl rfl (by rw [hn]; rfl) (by first | trivial | (simp; done) | (simp; omega) | (simp at *; done) | (simp at *; omega)) ?_ | refine sg true rfl rfl rfl (by rw [hn]; rfl) (by intro hG; first | trivial | (simp; done) | (simp; omega) | (simp at *; done) | (simp at *; omega)) ?_)
  refine s_storeN rfl rfl rfl rfl rfl (by first | trivial | (simp; done) | (simp; omega) | (simp at *; done) | (simp at *; omega)) rfl rfl rfl (by rw [cellsOf24]; rfl) (by rw [info24]; rfl) rfl rfl ?_
  repeat (first | refine W_seq ?_ | refine W_region ?_ | refine W_block ?_ | refine W_skip ?_ | refine W_ret ?_ | refine W_exit ?_ | refine WL_nil ?_ | refine N_then ?_ | refine N_then_exit ?_ | refine N_then_ret ?_ | refine N_block ?_ | refine N_block_ret ?_ | refine N_block_exit ?_ | refine N_block_pass rfl ?_ | refine sp true rfl rfl (by rw [hn]; rfl) (by first | trivial | (simp; done) | (simp; omega) | (simp at *; done) | (simp at *; omega)) ?_ | refine sg true rfl rfl rfl (by rw [hn]; rfl) (by intro hG; first | trivial | (simp; done) | (simp; omega) | (simp at *; done) | (simp at *; omega)) ?_)
  generalize trimL la = s at *
  generalize madeB ba la = bm at *
  refine W_join (St.of [(2, .c (.ptr 66 0)), (3, .c (.ptr 67 0)), (5, .c (.ptr 69 0)), (6, lv (.int .i64 (bitsL s)))] [(66, .cells [.lf (.v (.bool ba)), .lf (.ints .u8 la)]), (67, .cells [.lf (.v (.bool bb)), .lf (.ints .u8 lb)]), (69, .cells [.lf (.v (.bool (decide (x + y < 0)))), .lf (.ints .u8 (digL (x + y).natAbs))])]) ?_ ?_
  · refine W_cond rfl (by simp) (fun hq => ?_) (fun hq => ?_)
    · have h0 : 0 < s.length := by simpa using hq
      have hc0 : 0 ≤ s.getD 0 0 ∧ s.getD 0 0 < 256 := by
        have : s.getD 0 0 = s[0] := by simp [h0]
        rw [this]
        exact hws _ (List.getElem_mem _)
      have hc1 : s.getD 0 0 ≠ 0 := by
        cases s with
        | nil => simp at h0
        | cons c s =>
          intro h
          have h' : c = 0 := h
          subst h'
          have := len_trim s
          have h2 := congrArg List.length hts
          simp [trimL] at h2
          have h3 : (List.dropWhile (fun x => x == 0) s).length ≤ s.length := this
          omega
      have hbl : bitsL s = 8 * ((s.length : Int) - 1) + lenB (s.getD 0 0) := by rw [bitsL, if_neg (List.length_pos_iff.1 h0)]
      have hg : s.getD (0 : Int).toNat 0 = s.getD 0 0 := rfl
      repeat (first | refine W_seq ?_ | refine W_region ?_ | refine W_block ?_ | refine W_skip ?_ | refine W_ret ?_ | refine W_exit ?_ | refine WL_nil ?_ | refine N_then ?_ | refine N_then_exit ?_ | refine N_then_ret ?_ | refine N_block ?_ | refine N_block_ret ?_ | refine N_block_exit ?_ | refine N_block_pass rfl ?_ | refine sp true rfl rfl (by rw [hn]; rfl) (by first | trivial | (simp; done) | (simp; omega) | (simp at *; done) | (simp at *; omega)) ?_ | refine sg true rfl rfl rfl (by rw [hn]; rfl) (by intro hG; first | trivial | (simp; done) | (simp; omega) | (simp at *; done) | (simp at *; omega)) ?_)
      generalize hcc : s.getD 0 0 = c at *
      refine W_weaken (St.le_of (l := [(2, .c (.ptr 66 0)), (3, .c (.ptr 67 0)), (5, .c (.ptr 69 0)), (6, lv (.int .i64 (8 * (s.length : Int)))), (7, .c (.ptr 71 0)), (8, lv (.int .i64 128))]) (h := [(66, .cells [.lf (.v (.bool ba)), .lf (.ints .u8 la)]), (67, .cells [.lf (.v (.bool bb)), .lf (.ints .u8 lb)]), (69, .cells [.lf (.v (.bool (decide (x + y < 0)))), .lf (.ints .u8 (digL (x + y).natAbs))]), (71, .cells [.lf (.v (.bool bm)), .lf (.ints .u8 s)])]) (by refine ⟨?_, ?_⟩ <;> (repeat' (first | exact trivial | exact rfl | refine ⟨?_, ?_⟩)) <;> first | exact rfl | (simp; done) | skip)) ?_
      refine W_weaken (τ := St.of [(2, .c (.ptr 66 0)), (3, .c (.ptr 67 0)), (5, .c (.ptr 69 0)), (6, lv (.int .i64 (8 * (s.length : Int) - 0))), (7, .c (.ptr 71 0)), (8, lv (.int .i64 128))] [(66, .cells [.lf (.v (.bool ba)), .lf (.ints .u8 la)]), (67, .cells [.lf (.v (.bool bb)), .lf (.ints .u8 lb)]), (69, .cells [.lf (.v (.bool (decide (x + y < 0)))), .lf (.ints .u8 (digL (x + y).natAbs))]), (71, .cells [.lf (.v (.bool bm)), .lf (.ints .u8 s)])]) ?_ ?_
      · rw [Int.sub_zero]; exact ⟨fun _ => .inl rfl, fun _ => .inl rfl⟩
      refine W_loop (ι := {p : KJ // PwK p.k p.j ∧ c < 2 * p.k}) (fun p => St.of [(2, .c (.ptr 66 0)), (3, .c (.ptr 67 0)), (5, .c (.ptr 69 0)), (6, lv (.int .i64 (8 * (s.length : Int) - p.1.j))), (7, .c (.ptr 71 0)), (8, lv (.int .i64 p.1.k))] [(66, .cells [.lf (.v (.bool ba)), .lf (.ints .u8 la)]), (67, .cells [.lf (.v (.bool bb)), .lf (.ints .u8 lb)]), (69, .cells [.lf (.v (.bool (decide (x + y < 0)))), .lf (.ints .u8 (digL (x + y).natAbs))]), (71, .cells [.lf (.v (.bool bm)), .lf (.ints .u8 s)])]) (fun p => (7 - p.1.j).toNat) (fun p => ?_) ⟨⟨128, 0⟩, .inl ⟨rfl, rfl⟩, by dsimp only; omega⟩
      obtain ⟨⟨k, j⟩, hkj0, hck0⟩ := p
      have hkj : PwK k j := hkj0
      have hck : c < 2 * k := hck0
      dsimp only
      have hr := pwk_rng hkj
      repeat (first | refine W_seq ?_ | refine W_region ?_ | refine W_block ?_ | refine W_skip ?_ | refine W_ret ?_ | refine W_exit ?_ | refine WL_nil ?_ | refine N_then ?_ | refine N_then_exit ?_ | refine N_then_ret ?_ | refine N_block ?_ | refine N_block_ret ?_ | refine N_block_exit ?_ | refine N_block_pass rfl ?_ | refine sp true rfl rfl (by rw [hn]; rfl) (by first | trivial | (simp; done) | (simp; omega) | (simp at *; done) | (simp at *; omega)) ?_ | refine sg true rfl rfl rfl (by rw [hn]; rfl) (by intro hG; first | trivial | (simp; done) | (simp; omega) | (simp at *; done) | (simp at *; omega)) ?_)
      rw [hg]
      repeat (first | refine W_seq ?_ | refine W_region ?_ | refine W_block ?_ | refine W_skip ?_ | refine W_ret ?_ | refine W_exit ?_ | refine WL_nil ?_ | refine N_then ?_ | refine N_then_exit ?_ | refine N_then_ret ?_ | refine N_block ?_ | refine N_block_ret ?_ | refine N_block_exit ?_ | refine N_block_pass rfl ?_ | refine sp true rfl rfl (by rw [hn]; rfl) (by first | trivial | (simp; done) | (simp; omega) | (simp at *; done) | (simp at *; omega)) ?_ | refine sg true rfl rfl rfl (by rw [hn]; rfl) (by intro hG; first | trivial | (simp; done) | (simp; omega) | (simp at *; done) | (simp at *; omega)) ?_)
      refine W_cond rfl (by simp) (fun hu => ?_) (fun hu => ?_)
      · have h1 : c < k := by simpa using hu
        obtain ⟨hnx, hnc⟩ := pwk_next (x := c) hkj (by omega) h1
        have hr2 := pwk_rng hnx
        repeat (first | refine W_seq ?_ | refine W_region ?_ | refine W_block ?_ | refine W_skip ?_ | refine W_ret ?_ | refine W_exit ?_ | refine WL_nil ?_ | refine N_then ?_ | refine N_then_exit ?_ | refine N_then_ret ?_ | refine N_block ?_ | refine N_block_ret ?_ | refine N_block_exit ?_ | refine N_block_pass rfl ?_ | refine sp true rfl rfl (by rw [hn]; rfl) (by first | trivial | (simp; done) | (simp; omega) | (simp at *; done) | (simp at *; omega)) ?_ | refine sg true rfl rfl rfl (by rw [hn]; rfl) (by intro hG; first | trivial | (simp; done) | (simp; omega) | (simp at *; done) | (simp at *; omega)) ?_)
        have e : 8 * (s.length : Int) - j - 1 = 8 * (s.length : Int) - (j + 1) := by omega
        rw [e]
        refine N_round ⟨⟨k / 2, j + 1⟩, hnx, hnc⟩ (by dsimp only; omega) (St.le_of ⟨⟨rfl, rfl, rfl, rfl, rfl, rfl⟩, ⟨rfl, rfl, rfl, rfl⟩⟩)
      · have h1 : ¬ c < k := by simpa using hu
        have e : 8 * (s.length : Int) - j = bitsL s := by
          rw [hbl, pwk_len (x := c) hkj (by omega) hck]; omega
        rw [e]
        repeat (first | refine W_seq ?_ | refine W_region ?_ | refine W_block ?_ | refine W_skip ?_ | refine W_ret ?_ | refine W_exit ?_ | refine WL_nil ?_ | refine N_then ?_ | refine N_then_exit ?_ | refine N_then_ret ?_ | refine N_block ?_ | refine N_block_ret ?_ | refine N_block_exit ?_ | refine N_block_pass rfl ?_ | refine sp true rfl rfl (by rw [hn]; rfl) (by first | trivial | (simp; done) | (simp; omega) | (simp at *; done) | (simp at *; omega)) ?_ | refine sg true rfl rfl rfl (by rw [hn]; rfl) (by intro hG; first | trivial | (simp; done) | (simp; omega) | (simp at *; done) | (simp at *; omega)) ?_)
        (refine N_join ?_; refine St.le_of ⟨?_, ?_⟩ <;> (repeat' (first | exact trivial | exact rfl | refine ⟨?_, ?_⟩)) <;> first | exact rfl | (simp; done) | skip)
    · have h0 : s = [] := by simpa using hq
      subst h0
      repeat (first | refine W_seq ?_ | refine W_region ?_ | refine W_block ?_ | refine W_skip ?_ | refine W_ret ?_ | refine W_exit ?_ | refine WL_nil ?_ | refine N_then ?_ | refine N_then_exit ?_ | refine N_then_ret ?_ | refine N_block ?_ | refine N_block_ret ?_ | refine N_block_exit ?_ | refine N_block_pass rfl ?_ | refine sp true rfl rfl (by rw [hn]; rfl) (by first | trivial | (simp; done) | (simp; omega) | (simp at *; done) | (simp at *; omega)) ?_ | refine sg true rfl rfl rfl (by rw [hn]; rfl) (by intro hG; first | trivial | (simp; done) | (simp; omega) | (simp at *; done) | (simp at *; omega)) ?_)
      (refine N_join ?_; refine St.le_of ⟨?_, ?_⟩ <;> (repeat' (first | exact trivial | exact rfl | refine ⟨?_, ?_⟩)) <;> first | exact rfl | (simp; done) | skip)
  repeat (first | refine W_seq ?_ | refine W_region ?_ | refine W_block ?_ | refine W_skip ?_ | refine W_ret ?_ | refine W_exit ?_ | refine WL_nil ?_ | refine N_then ?_ | refine N_then_exit ?_ | refine N_then_ret ?_ | refine N_block ?_ | refine N_block_ret ?_ | refine N_block_exit ?_ | refine N_block_pass rfl ?_ | refine sp true rfl rfl (by rw [hn]; rfl) (by first | trivial | (simp; done) | (simp; omega) | (simp at *; done) | (simp at *; omega)) ?_ | refine sg true rfl rfl rfl (by rw [hn]; rfl) (by intro hG; first | trivial | (simp; done) | (simp; omega) | (simp at *; done) | (simp at *; omega)) ?_)
  refine s_call0 (to_ok ba la) rfl rfl rfl (by rw [hn]; rfl) rfl rfl (by first | trivial | (simp; done) | (simp; omega) | (simp at *; done) | (simp at *; omega)) rfl rfl rfl ?_
  repeat (first | refine W_seq ?_ | refine W_region ?_ | refine W_block ?_ | refine W_skip ?_ | refine W_ret ?_ | refine W_exit ?_ | refine WL_nil ?_ | refine N_then ?_ | refine N_then_exit ?_ | refine N_then_ret ?_ | refine N_block ?_ | refine N_block_ret ?_ | refine N_block_exit ?_ | refine N_block_pass rfl ?_ | refine sp true rfl rfl (by rw [hn]; rfl) (by first | trivial | (simp; done) | (simp; omega) | (simp at *; done) | (simp at *; omega)) ?_ | refine sg true rfl rfl rfl (by rw [hn]; rfl) (by intro hG; first | trivial | (simp; done) | (simp; omega) | (simp at *; done) | (simp at *; omega)) ?_)
  refine s_call0 (c5) rfl rfl rfl (by rw [hn]; rfl) rfl rfl (by first | trivial | (simp; done) | (simp; omega) | (simp at *; done) | (simp at *; omega)) rfl rfl rfl ?_
  repeat (first | refine W_seq ?_ | refine W_region ?_ | refine W_block ?_ | refine W_skip ?_ | refine W_ret ?_ | refine W_exit ?_ | refine WL_nil ?_ | refine N_then ?_ | refine N_then_exit ?_ | refine N_then_ret ?_ | refine N_block ?_ | refine N_block_ret ?_ | refine N_block_exit ?_ | refine N_block_pass rfl ?_ | refine sp true rfl rfl (by rw [hn]; rfl) (by first | trivial | (simp; done) | (simp; omega) | (simp at *; done) | (simp at *; omega)) ?_ | refine sg true rfl rfl rfl (by rw [hn]; rfl) (by intro hG; first | trivial | (simp; done) | (simp; omega) | (simp at *; done) | (simp at *; omega)) ?_)
  refine s_allocN rfl rfl rfl (by rw [hn]; rfl) rfl zok30 ?_
  repeat (first | refine W_seq ?_ | refine W_region ?_ | refine W_block ?_ | refine W_skip ?_ | refine W_ret ?_ | refine W_exit ?_ | refine WL_nil ?_ | refine N_then ?_ | refine N_then_exit ?_ | refine N_then_ret ?_ | refine N_block ?_ | refine N_block_ret ?_ | refine N_block_exit ?_ | refine N_block_pass rfl ?_ | refine sp true rfl rfl (by rw [hn]; rfl) (by first | trivial | (simp; done) | (simp; omega) | (simp at *; done) | (simp at *; omega)) ?_ | refine sg true rfl rfl rfl (by rw [hn]; rfl) (by intro hG; first | trivial | (simp; done) | (simp; omega) | (simp at *; done) | (simp at *; omega)) ?_)
  refine s_storeN rfl rfl rfl rfl rfl (by first | trivial | (simp; done) | (simp; omega) | (simp at *; done) | (simp at *; omega)) rfl rfl rfl (by rw [cellsOf30]; rfl) (by rw [info30]; rfl) rfl rfl ?_
  repeat (first | refine W_seq ?_ | refine W_region ?_ | refine W_block ?_ | refine W_skip ?_ | refine W_ret ?_ | refine W_exit ?_ | refine WL_nil ?_ | refine N_then ?_ | refine N_then_exit ?_ | refine N_then_ret ?_ | refine N_block ?_ | refine N_block_ret ?_ | refine N_block_exit ?_ | refine N_block_pass rfl ?_ | refine sp true rfl rfl (by rw [hn]; rfl) (by first | trivial | (simp; done) | (simp; omega) | (simp at *; done) | (simp at *; omega)) ?_ | refine sg true rfl rfl rfl (by rw [hn]; rfl) (by intro hG; first | trivial | (simp; done) | (simp; omega) | (simp at *; done) | (simp at *; omega)) ?_)
  refine W_drawW 43 (by kernel_rfl) (by kernel_rfl) (by kernel_rfl) (by rw [hn]; rfl) rfl rfl ?_
  refine DrawW_cons rfl (ops_of (opys_call (known_ok) rfl rfl rfl (by first | trivial | (simp; done) | (simp; omega) | (simp at *; done) | (simp at *; omega)) rfl rfl rfl) rfl) ?_
  repeat (first | refine DrawW_cons rfl (ops_pure true rfl rfl (by first | trivial | (simp; done) | (simp; omega) | (simp at *; done) | (simp at *; omega))) ?_ | refine DrawW_cons rfl (ops_pureG true rfl rfl rfl (by intro hG; first | trivial | (simp; done) | (simp; omega) | (simp at *; done) | (simp at *; omega))) ?_ | refine DrawW_nil ?_)
  refine DrawW_cons rfl (ops_ofG rfl rfl (fun hG => opys_call (to_ok ba la) rfl rfl rfl (by first | exact hG | (first | trivial | (simp; done) | (simp; omega) | (simp at *; done) | (simp at *; omega))) rfl rfl rfl)) ?_
  repeat (first | refine DrawW_cons rfl (ops_pure true rfl rfl (by first | trivial | (simp; done) | (simp; omega) | (simp at *; done) | (simp at *; omega))) ?_ | refine DrawW_cons rfl (ops_pureG true rfl rfl rfl (by intro hG; first | trivial | (simp; done) | (simp; omega) | (simp at *; done) | (simp at *; omega))) ?_ | refine DrawW_nil ?_)
  refine DrawW_cons rfl (ops_ofG rfl rfl (fun hG => opys_call (to_ok bb lb) rfl rfl rfl (by first | exact hG | (first | trivial | (simp; done) | (simp; omega) | (simp at *; done) | (simp at *; omega))) rfl rfl rfl)) ?_
  refine DrawW_cons rfl (ops_ofG rfl rfl (fun hG => opys_call (c2) rfl rfl rfl (by first | exact hG | (first | trivial | (simp; done) | (simp; omega) | (simp at *; done) | (simp at *; omega))) rfl rfl rfl)) ?_
  repeat (first | refine DrawW_cons rfl (ops_pure true rfl rfl (by first | trivial | (simp; done) | (simp; omega) | (simp at *; done) | (simp at *; omega))) ?_ | refine DrawW_cons rfl (ops_pureG true rfl rfl rfl (by intro hG; first | trivial | (simp; done) | (simp; omega) | (simp at *; done) | (simp at *; omega))) ?_ | refine DrawW_nil ?_)
  refine DrawW_cons rfl (ops_ofG rfl rfl (fun hG => opys_call (c3) rfl rfl rfl (by first | exact hG | (first | trivial | (simp; done) | (simp; omega) | (simp at *; done) | (simp at *; omega))) rfl rfl rfl)) ?_
  repeat (first | refine DrawW_cons rfl (ops_pure true rfl rfl (by first | trivial | (simp; done) | (simp; omega) | (simp at *; done) | (simp at *; omega))) ?_ | refine DrawW_cons rfl (ops_pureG true rfl rfl rfl (by intro hG; first | trivial | (simp; done) | (simp; omega) | (simp at *; done) | (simp at *; omega))) ?_ | refine DrawW_nil ?_)
  refine DrawW_cons rfl (ops_ofG rfl rfl (fun hG => opys_call (of_ok (decide (x + y < 0)) (digL (x + y).natAbs)) rfl rfl rfl (by first | exact hG | (first | trivial | (simp; done) | (simp; omega) | (simp at *; done) | (simp at *; omega))) rfl rfl rfl)) ?_
  repeat (first | refine DrawW_cons rfl (ops_pure true rfl rfl (by first | trivial | (simp; done) | (simp; omega) | (simp at *; done) | (simp at *; omega))) ?_ | refine DrawW_cons rfl (ops_pureG true rfl rfl rfl (by intro hG; first | trivial | (simp; done) | (simp; omega) | (simp at *; done) | (simp at *; omega))) ?_ | refine DrawW_nil ?_)
  refine DrawW_cons rfl (ops_ofG rfl rfl (fun hG => opys_call (c4) rfl rfl rfl (by first | exact hG | (first | trivial | (simp; done) | (simp; omega) | (simp at *; done) | (simp at *; omega))) rfl rfl rfl)) ?_
  refine DrawW_cons rfl (ops_ofG rfl rfl (fun hG => opys_call (c7) rfl rfl rfl (by first | exact hG | (first | trivial | (simp; done) | (simp; omega) | (simp at *; done) | (simp at *; omega))) rfl rfl rfl)) ?_
  repeat (first | refine DrawW_cons rfl (ops_pure true rfl rfl (by first | trivial | (simp; done) | (simp; omega) | (simp at *; done) | (simp at *; omega))) ?_ | refine DrawW_cons rfl (ops_pureG true rfl rfl rfl (by intro hG; first | trivial | (simp; done) | (simp; omega) | (simp at *; done) | (simp at *; omega))) ?_ | refine DrawW_nil ?_)
  refine DrawW_cons rfl (ops_ofG rfl rfl (fun hG => opys_call (c9) rfl rfl rfl (by first | exact hG | (first | trivial | (simp; done) | (simp; omega) | (simp at *; done) | (simp at *; omega))) rfl rfl rfl)) ?_
  repeat (first | refine DrawW_cons rfl (ops_pure true rfl rfl (by first | trivial | (simp; done) | (simp; omega) | (simp at *; done) | (simp at *; omega))) ?_ | refine DrawW_cons rfl (ops_pureG true rfl rfl rfl (by intro hG; first | trivial | (simp; done) | (simp; omega) | (simp at *; done) | (simp at *; omega))) ?_ | refine DrawW_nil ?_)
  refine DrawW_cons rfl (ops_ofG rfl rfl (fun hG => opys_call (c10) rfl rfl rfl (by first | exact hG | (first | trivial | (simp; done) | (simp; omega) | (simp at *; done) | (simp at *; omega))) rfl rfl rfl)) ?_
  repeat (first | refine DrawW_cons rfl (ops_pure true rfl rfl (by first | trivial | (simp; done) | (simp; omega) | (simp at *; done) | (simp at *; omega))) ?_ | refine DrawW_cons rfl (ops_pureG true rfl rfl rfl (by intro hG; first | trivial | (simp; done) | (simp; omega) | (simp at *; done) | (simp at *; omega))) ?_ | refine DrawW_nil ?_)
  refine DrawW_cons rfl (ops_ofG rfl rfl (fun hG => opys_call (of_ok (decide (-x < 0)) (digL (-x).natAbs)) rfl rfl rfl (by first | exact hG | (first | trivial | (simp; done) | (simp; omega) | (simp at *; done) | (simp at *; omega))) rfl rfl rfl)) ?_
  repeat (first | refine DrawW_cons rfl (ops_pure true rfl rfl (by first | trivial | (simp; done) | (simp; omega) | (simp at *; done) | (simp at *; omega))) ?_ | refine DrawW_cons rfl (ops_pureG true rfl rfl rfl (by intro hG; first | trivial | (simp; done) | (simp; omega) | (simp at *; done) | (simp at *; omega))) ?_ | refine DrawW_nil ?_)
  refine DrawW_cons rfl (ops_ofG rfl rfl (fun hG => opys_call (c6) rfl rfl rfl (by first | exact hG | (first | trivial | (simp; done) | (simp; omega) | (simp at *; done) | (simp at *; omega))) rfl rfl rfl)) ?_
  repeat (first | refine DrawW_cons rfl (ops_pure true rfl rfl (by first | trivial | (simp; done) | (simp; omega) | (simp at *; done) | (simp at *; omega))) ?_ | refine DrawW_cons rfl (ops_pureG true rfl rfl rfl (by intro hG; first | trivial | (simp; done) | (simp; omega) | (simp at *; done) | (simp at *; omega))) ?_ | refine DrawW_nil ?_)
  refine DrawW_cons rfl (ops_ofG rfl rfl (fun hG => opys_call (c8) rfl rfl rfl (by first | exact hG | (first | trivial | (simp; done) | (simp; omega) | (simp at *; done) | (simp at *; omega))) rfl rfl rfl)) ?_
  repeat (first | refine DrawW_cons rfl (ops_pure true rfl rfl (by first | trivial | (simp; done) | (simp; omega) | (simp at *; done) | (simp at *; omega))) ?_ | refine DrawW_cons rfl (ops_pureG true rfl rfl rfl (by intro hG; first | trivial | (simp; done) | (simp; omega) | (simp at *; done) | (simp at *; omega))) ?_ | refine DrawW_nil ?_)
  refine DrawW_cons rfl (ops_ofG rfl rfl (fun hG => opys_call (to_ok ba la) rfl rfl rfl (by first | exact hG | (first | trivial | (simp; done) | (simp; omega) | (simp at *; done) | (simp at *; omega))) rfl rfl rfl)) ?_
  refine DrawW_cons rfl (ops_ofG rfl rfl (fun hG => opys_call (c11) rfl rfl rfl (by first | exact hG | (first | trivial | (simp; done) | (simp; omega) | (simp at *; done) | (simp at *; omega))) rfl rfl rfl)) ?_
  repeat (first | refine DrawW_cons rfl (ops_pure true rfl rfl (by first | trivial | (simp; done) | (simp; omega) | (simp at *; done) | (simp at *; omega))) ?_ | refine DrawW_cons rfl (ops_pureG true rfl rfl rfl (by intro hG; first | trivial | (simp; done) | (simp; omega) | (simp at *; done) | (simp at *; omega))) ?_ | refine DrawW_nil ?_)
  repeat (first | refine W_seq ?_ | refine W_region ?_ | refine W_block ?_ | refine W_skip ?_ | refine W_ret ?_ | refine W_exit ?_ | refine WL_nil ?_ | refine N_then ?_ | refine N_then_exit ?_ | refine N_then_ret ?_ | refine N_block ?_ | refine N_block_ret ?_ | refine N_block_exit ?_ | refine N_block_pass rfl ?_ | refine sp true rfl rfl (by rw [hn]; rfl) (by first | trivial | (simp; done) | (simp; omega) | (simp at *; done) | (simp at *; omega)) ?_ | refine sg true rfl rfl rfl (by rw [hn]; rfl) (by intro hG; first | trivial | (simp; done) | (simp; omega) | (simp at *; done) | (simp at *; omega)) ?_)
  refine N_retN [] rfl (by first | trivial | (simp; done) | (simp; omega) | (simp at *; done) | (simp at *; omega)) ⟨?_, by first | trivial | exact ⟨rfl, rfl⟩, ?_, rfl⟩ hb rfl (by first | trivial | (simp; done))
  · simp
    rfl
  · trivial
end Go.Proofs.Ytppmfjopokkhmaa

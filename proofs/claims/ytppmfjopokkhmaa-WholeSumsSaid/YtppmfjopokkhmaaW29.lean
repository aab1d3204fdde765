/-
  Chapter 03's rules of sums, walked: it returns true. The conditions: rows of bytes that a machine can hold.
-/
import Derived.Test.YtppmfjopokkhmaaW28
import Derived.Test.YtppmfjopokkhmaaSxX
namespace Go.Proofs.Ytppmfjopokkhmaa
set_option linter.unusedSimpArgs false
set_option linter.unusedVariables false
open Go.Sx

set_option maxRecDepth 10000

theorem Ct_up {P : Program} {f : FuncId} {args args' : List Av} {bor bor' news : List Blk} {res : Av} (h : Ct P f args bor res bor' news) (hu : AvsUp args' args) : Ct P f args' bor res bor' news := by
  obtain ⟨a, b, c⟩ := h
  obtain ⟨h1, h2⟩ := hu.get
  refine ⟨a, b, fun w β F vs k1 k2 k3 k4 k5 k6 k7 => c w β F vs (by omega) (fun i x v hx hv => ?_) k3 k4 k5 k6 k7⟩
  obtain ⟨y, hy, hf⟩ := h2 i x hx
  exact hf.sound (k2 i y v hy hv)

theorem lenZ (z M : Int) (hM : M = 256 ^ 200) (h1 : -(4 * M) < z) (h2 : z < 4 * M) : (digL z.natAbs).length ≤ 201 := by
  apply dig_len
  have e : ((256 ^ 201 : Nat) : Int) = 256 * M := by rw [hM]; rfl
  omega
theorem wfZ (z : Int) : WfB (digL z.natAbs) := (dig_spec _ _ (Nat.le_refl _)).1
theorem add_Z {b c : Bool} {l m : List Int} {x y : Int} (hx : zOf b l = x) (hy : zOf c m = y) (hl : l.length ≤ 201) (hm : m.length ≤ 201) (hwl : WfB l) (hwm : WfB m) : Ct Try.prog 49 [numA b l, numA c m] [] (numZ (x + y)) [] [] := by
  have := add_ok b c l m (by omega) (by omega) hwl hwm
  rwa [hx, hy] at this
theorem cmp_Z {b c : Bool} {l m : List Int} {x y : Int} (hx : zOf b l = x) (hy : zOf c m = y) (hl : l.length ≤ 201) (hm : m.length ≤ 201) (hwl : WfB l) (hwm : WfB m) : Ct Try.prog 50 [numA b l, numA c m] [] (lv (.int .i64 (cmpI x y))) [] [] := by
  have := compareZ_ok b c l m (by omega) (by omega) hwl hwm
  rwa [hx, hy] at this
theorem neg_Z {b : Bool} {l : List Int} {x : Int} (hx : zOf b l = x) (hl : l.length ≤ 201) (hwl : WfB l) : Ct Try.prog 51 [numA b l] [] (numZ (-x)) [] [] := by
  have := neg_ok b l (by omega) hwl
  rwa [hx] at this
theorem zOf_bound (b : Bool) (l : List Int) (M : Int) (hM : M = 256 ^ 200) (hl : l.length ≤ 200) (hw : WfB l) : -M < zOf b l ∧ zOf b l < M := by
  have h1 := val_lt l 200 hl hw
  have h0 := val_nonneg l 0 (by decide) hw
  rw [← hM] at h1
  cases b
  · rw [zOf_f]; omega
  · rw [zOf_t]; omega
theorem cmpI_rng (x y : Int) : -1 ≤ cmpI x y ∧ cmpI x y ≤ 1 := by
  unfold cmpI
  split
  · omega
  · split <;> omega

set_option maxHeartbeats 4000000 in
theorem rules_ok (ba : Bool) (a0 : List Int) (bb : Bool) (b0 : List Int) (bc : Bool) (c0 : List Int) (hla : a0.length ≤ 9223372036854775807) (hlb : b0.length ≤ 9223372036854775807) (hlc : c0.length ≤ 9223372036854775807) (hwa : WfB a0) (hwb : WfB b0) (hwc : WfB c0) :
    Ct Try.prog 11 [numA ba a0, numA bb b0, numA bc c0] [] (lv (.bool true)) [] [] := by
  have ha : (a0.take 200).length ≤ 200 := by simp; omega
  have hb2 : (b0.take 200).length ≤ 200 := by simp; omega
  have hc : (c0.take 200).length ≤ 200 := by simp; omega
  have hwa2 := wf_take hwa 200
  have hwb2 := wf_take hwb 200
  have hwc2 := wf_take hwc 200
  have hfa := few_ok ba a0 hla
  have hfb := few_ok bb b0 hlb
  have hfc := few_ok bc c0 hlc
  generalize a0.take 200 = la at *
  generalize b0.take 200 = lb at *
  generalize c0.take 200 = lc at *
  obtain ⟨M, hM⟩ : ∃ M : Int, M = 256 ^ 200 := ⟨_, rfl⟩
  obtain ⟨x, hx⟩ : ∃ x, zOf ba la = x := ⟨_, rfl⟩
  obtain ⟨y, hy⟩ : ∃ y, zOf bb lb = y := ⟨_, rfl⟩
  obtain ⟨z, hz⟩ : ∃ z, zOf bc lc = z := ⟨_, rfl⟩
  have bx := zOf_bound ba la M hM ha hwa2
  have bY := zOf_bound bb lb M hM hb2 hwb2
  have bz := zOf_bound bc lc M hM hc hwc2
  rw [hx] at bx
  rw [hy] at bY
  rw [hz] at bz
  have L : ∀ w : Int, -(4 * M) < w → w < 4 * M → (digL w.natAbs).length ≤ 201 := fun w h1 h2 => lenZ w M hM h1 h2
  have l1 := L (x + y) (by omega) (by omega)
  have l2 := L (x + y + z) (by omega) (by omega)
  have l3 := L (z + y) (by omega) (by omega)
  have l4 := L (x + (z + y)) (by omega) (by omega)
  have l5 := L (-x) (by omega) (by omega)
  have l6 := L (x + -x) (by omega) (by omega)
  have l7 := L (-y) (by omega) (by omega)
  have l8 := L (x + y + -y) (by omega) (by omega)
  have l9 := L (x + z) (by omega) (by omega)
  have l10 := L (y + z) (by omega) (by omega)
  clear L
  have c1 := add_Z hx hy (by omega) (by omega) hwa2 hwb2
  have c2 := add_Z (zOf_numZ (x + y)) hz l1 (by omega) (wfZ _) hwc2
  have c3 := add_Z hz hy (by omega) (by omega) hwc2 hwb2
  have c4 := add_Z hx (zOf_numZ (z + y)) (by omega) l3 hwa2 (wfZ _)
  have c5 := cmp_Z (zOf_numZ (x + y + z)) (zOf_numZ (x + (z + y))) l2 l4 (wfZ _) (wfZ _)
  have c6 := neg_Z hx (by omega) hwa2
  have c7 := add_Z hx (zOf_numZ (-x)) (by omega) l5 hwa2 (wfZ _)
  have c8 : Ct Try.prog 50 [numZ (x + -x), .agg [.lf (.v (.bool false)), .lf (.v (.slice none 0 0))]] [] (lv (.int .i64 (cmpI (x + -x) 0))) [] [] :=
    Ct_up (cmp_Z (b := decide (x + -x < 0)) (c := false) (m := []) (zOf_numZ (x + -x)) rfl l6 (by simp) (wfZ _) (fun x hx => by cases hx)) ⟨⟨.inl rfl, .inl rfl, trivial⟩, ⟨.inl rfl, .inr ⟨rfl, .inl ⟨_, rfl⟩⟩, trivial⟩, trivial⟩
  have c9 := neg_Z hy (by omega) hwb2
  have c10 := add_Z (zOf_numZ (x + y)) (zOf_numZ (-y)) l1 l7 (wfZ _) (wfZ _)
  have c11 := cmp_Z (zOf_numZ (x + y + -y)) hx l8 (by omega) (wfZ _) hwa2
  have c12 := add_Z hx hz (by omega) (by omega) hwa2 hwc2
  have c13 := add_Z hy hz (by omega) (by omega) hwb2 hwc2
  have c14 := cmp_Z (zOf_numZ (x + z)) (zOf_numZ (y + z)) l9 l10 (wfZ _) (wfZ _)
  have c15 := cmp_Z hx hy (by omega) (by omega) hwa2 hwb2
  have c16 := cmp_Z hy hx (by omega) (by omega) hwb2 hwa2
  have hrng := cmpI_rng x y
  refine Ct_intro Try.func11 rfl rfl rfl rfl rfl (fun E hn hb => ?_)
  repeat (first | refine W_seq ?_ | refine W_region ?_ | refine W_block ?_ | refine W_skip ?_ | refine W_ret ?_ | refine W_exit ?_ | refine WL_nil ?_ | refine N_then ?_ | refine N_then_exit ?_ | refine N_then_ret ?_ | refine N_block ?_ | refine N_block_ret ?_ | refine N_block_exit ?_ | refine N_block_pass rfl ?_ | refine sp true rfl rfl (by rw [hn]; rfl) (by first | trivial | (simp; done) | (simp; omega) | (simp at *; done) | (simp at *; omega)) ?_ | refine sg true rfl rfl rfl (by rw [hn]; rfl) (by intro hG; first | trivial | (simp; done) | (simp; omega) | (simp at *; done) | (simp at *; omega)) ?_)
  refine s_boxN rfl rfl rfl (by rw [hn]; rfl) rfl (by first | trivial | (simp; done) | (simp; omega) | (simp at *; done) | (simp at *; omega)) rfl rfl ?_
  refine s_boxN rfl rfl rfl (by rw [hn]; rfl) rfl (by first | trivial | (simp; done) | (simp; omega) | (simp at *; done) | (simp at *; omega)) rfl rfl ?_
  refine s_boxN rfl rfl rfl (by rw [hn]; rfl) rfl (by first | trivial | (simp; done) | (simp; omega) | (simp at *; done) | (simp at *; omega)) rfl rfl ?_
  repeat (first | refine W_seq ?_ | refine W_region ?_ | refine W_block ?_ | refine W_skip ?_ | refine W_ret ?_ | refine W_exit ?_ | refine WL_nil ?_ | refine N_then ?_ | refine N_then_exit ?_ | refine N_then_ret ?_ | refine N_block ?_ | refine N_block_ret ?_ | refine N_block_exit ?_ | refine N_block_pass rfl ?_ | refine sp true rfl rfl (by rw [hn]; rfl) (by first | trivial | (simp; done) | (simp; omega) | (simp at *; done) | (simp at *; omega)) ?_ | refine sg true rfl rfl rfl (by rw [hn]; rfl) (by intro hG; first | trivial | (simp; done) | (simp; omega) | (simp at *; done) | (simp at *; omega)) ?_)
  refine W_drawA 12 [71, 72, 73] rfl (by kernel_rfl) (by kernel_rfl) (by kernel_rfl) (by kernel_rfl) (by rw [hn]; rfl) rfl rfl ?_
  repeat (first | refine DrawA_op rfl (ops_pure true rfl rfl (by first | trivial | (simp; done) | (simp; omega) | (simp at *; done) | (simp at *; omega))) ?_ | refine DrawA_op rfl (ops_pureG true rfl rfl rfl (by intro hG; first | trivial | (simp; done) | (simp; omega) | (simp at *; done) | (simp at *; omega))) ?_ | refine DrawA_nil ?_)
  refine DrawA_op rfl (ops_of (opys_call (hfa) rfl rfl rfl (by first | trivial | (simp; done) | (simp; omega) | (simp at *; done) | (simp at *; omega)) rfl rfl rfl) rfl) ?_
  refine DrawA_op rfl (ops_of (opys_call (to_ok ba la) rfl rfl rfl (by first | trivial | (simp; done) | (simp; omega) | (simp at *; done) | (simp at *; omega)) rfl rfl rfl) rfl) ?_
  repeat (first | refine DrawA_op rfl (ops_pure true rfl rfl (by first | trivial | (simp; done) | (simp; omega) | (simp at *; done) | (simp at *; omega))) ?_ | refine DrawA_op rfl (ops_pureG true rfl rfl rfl (by intro hG; first | trivial | (simp; done) | (simp; omega) | (simp at *; done) | (simp at *; omega))) ?_ | refine DrawA_nil ?_)
  refine DrawA_op rfl (ops_of (opys_call (hfb) rfl rfl rfl (by first | trivial | (simp; done) | (simp; omega) | (simp at *; done) | (simp at *; omega)) rfl rfl rfl) rfl) ?_
  refine DrawA_op rfl (ops_of (opys_call (to_ok bb lb) rfl rfl rfl (by first | trivial | (simp; done) | (simp; omega) | (simp at *; done) | (simp at *; omega)) rfl rfl rfl) rfl) ?_
  repeat (first | refine DrawA_op rfl (ops_pure true rfl rfl (by first | trivial | (simp; done) | (simp; omega) | (simp at *; done) | (simp at *; omega))) ?_ | refine DrawA_op rfl (ops_pureG true rfl rfl rfl (by intro hG; first | trivial | (simp; done) | (simp; omega) | (simp at *; done) | (simp at *; omega))) ?_ | refine DrawA_nil ?_)
  refine DrawA_op rfl (ops_of (opys_call (hfc) rfl rfl rfl (by first | trivial | (simp; done) | (simp; omega) | (simp at *; done) | (simp at *; omega)) rfl rfl rfl) rfl) ?_
  refine DrawA_op rfl (ops_of (opys_call (to_ok bc lc) rfl rfl rfl (by first | trivial | (simp; done) | (simp; omega) | (simp at *; done) | (simp at *; omega)) rfl rfl rfl) rfl) ?_
  repeat (first | refine DrawA_op rfl (ops_pure true rfl rfl (by first | trivial | (simp; done) | (simp; omega) | (simp at *; done) | (simp at *; omega))) ?_ | refine DrawA_op rfl (ops_pureG true rfl rfl rfl (by intro hG; first | trivial | (simp; done) | (simp; omega) | (simp at *; done) | (simp at *; omega))) ?_ | refine DrawA_nil ?_)
  refine DrawA_al rfl rfl rfl rfl zok30 rfl ?_
  refine DrawA_al rfl rfl rfl rfl zok30 rfl ?_
  refine DrawA_al rfl rfl rfl rfl zok30 rfl ?_
  repeat (first | refine DrawA_op rfl (ops_pure true rfl rfl (by first | trivial | (simp; done) | (simp; omega) | (simp at *; done) | (simp at *; omega))) ?_ | refine DrawA_op rfl (ops_pureG true rfl rfl rfl (by intro hG; first | trivial | (simp; done) | (simp; omega) | (simp at *; done) | (simp at *; omega))) ?_ | refine DrawA_nil ?_)
  refine s_storeN rfl rfl rfl rfl rfl (by first | trivial | (simp; done) | (simp; omega) | (simp at *; done) | (simp at *; omega)) rfl rfl rfl (by rw [cellsOf30]; rfl) (by rw [info30]; rfl) rfl rfl ?_
  refine s_storeN rfl rfl rfl rfl rfl (by first | trivial | (simp; done) | (simp; omega) | (simp at *; done) | (simp at *; omega)) rfl rfl rfl (by rw [cellsOf30]; rfl) (by rw [info30]; rfl) rfl rfl ?_
  refine s_storeN rfl rfl rfl rfl rfl (by first | trivial | (simp; done) | (simp; omega) | (simp at *; done) | (simp at *; omega)) rfl rfl rfl (by rw [cellsOf30]; rfl) (by rw [info30]; rfl) rfl rfl ?_
  repeat (first | refine W_seq ?_ | refine W_region ?_ | refine W_block ?_ | refine W_skip ?_ | refine W_ret ?_ | refine W_exit ?_ | refine WL_nil ?_ | refine N_then ?_ | refine N_then_exit ?_ | refine N_then_ret ?_ | refine N_block ?_ | refine N_block_ret ?_ | refine N_block_exit ?_ | refine N_block_pass rfl ?_ | refine sp true rfl rfl (by rw [hn]; rfl) (by first | trivial | (simp; done) | (simp; omega) | (simp at *; done) | (simp at *; omega)) ?_ | refine sg true rfl rfl rfl (by rw [hn]; rfl) (by intro hG; first | trivial | (simp; done) | (simp; omega) | (simp at *; done) | (simp at *; omega)) ?_)
  refine W_drawA 6 [74] rfl (by kernel_rfl) (by kernel_rfl) (by kernel_rfl) (by kernel_rfl) (by rw [hn]; rfl) rfl rfl ?_
  repeat (first | refine DrawA_op rfl (ops_pure true rfl rfl (by first | trivial | (simp; done) | (simp; omega) | (simp at *; done) | (simp at *; omega))) ?_ | refine DrawA_op rfl (ops_pureG true rfl rfl rfl (by intro hG; first | trivial | (simp; done) | (simp; omega) | (simp at *; done) | (simp at *; omega))) ?_ | refine DrawA_nil ?_)
  refine DrawA_op rfl (ops_of (opys_call (c1) rfl rfl rfl (by first | trivial | (simp; done) | (simp; omega) | (simp at *; done) | (simp at *; omega)) rfl rfl rfl) rfl) ?_
  repeat (first | refine DrawA_op rfl (ops_pure true rfl rfl (by first | trivial | (simp; done) | (simp; omega) | (simp at *; done) | (simp at *; omega))) ?_ | refine DrawA_op rfl (ops_pureG true rfl rfl rfl (by intro hG; first | trivial | (simp; done) | (simp; omega) | (simp at *; done) | (simp at *; omega))) ?_ | refine DrawA_nil ?_)
  refine DrawA_op rfl (ops_of (opys_call (c2) rfl rfl rfl (by first | trivial | (simp; done) | (simp; omega) | (simp at *; done) | (simp at *; omega)) rfl rfl rfl) rfl) ?_
  repeat (first | refine DrawA_op rfl (ops_pure true rfl rfl (by first | trivial | (simp; done) | (simp; omega) | (simp at *; done) | (simp at *; omega))) ?_ | refine DrawA_op rfl (ops_pureG true rfl rfl rfl (by intro hG; first | trivial | (simp; done) | (simp; omega) | (simp at *; done) | (simp at *; omega))) ?_ | refine DrawA_nil ?_)
  refine DrawA_al rfl rfl rfl rfl zok30 rfl ?_
  repeat (first | refine DrawA_op rfl (ops_pure true rfl rfl (by first | trivial | (simp; done) | (simp; omega) | (simp at *; done) | (simp at *; omega))) ?_ | refine DrawA_op rfl (ops_pureG true rfl rfl rfl (by intro hG; first | trivial | (simp; done) | (simp; omega) | (simp at *; done) | (simp at *; omega))) ?_ | refine DrawA_nil ?_)
  refine s_storeN rfl rfl rfl rfl rfl (by first | trivial | (simp; done) | (simp; omega) | (simp at *; done) | (simp at *; omega)) rfl rfl rfl (by rw [cellsOf30]; rfl) (by rw [info30]; rfl) rfl rfl ?_
  repeat (first | refine W_seq ?_ | refine W_region ?_ | refine W_block ?_ | refine W_skip ?_ | refine W_ret ?_ | refine W_exit ?_ | refine WL_nil ?_ | refine N_then ?_ | refine N_then_exit ?_ | refine N_then_ret ?_ | refine N_block ?_ | refine N_block_ret ?_ | refine N_block_exit ?_ | refine N_block_pass rfl ?_ | refine sp true rfl rfl (by rw [hn]; rfl) (by first | trivial | (simp; done) | (simp; omega) | (simp at *; done) | (simp at *; omega)) ?_ | refine sg true rfl rfl rfl (by rw [hn]; rfl) (by intro hG; first | trivial | (simp; done) | (simp; omega) | (simp at *; done) | (simp at *; omega)) ?_)
  refine W_drawA 6 [75] rfl (by kernel_rfl) (by kernel_rfl) (by kernel_rfl) (by kernel_rfl) (by rw [hn]; rfl) rfl rfl ?_
  repeat (first | refine DrawA_op rfl (ops_pure true rfl rfl (by first | trivial | (simp; done) | (simp; omega) | (simp at *; done) | (simp at *; omega))) ?_ | refine DrawA_op rfl (ops_pureG true rfl rfl rfl (by intro hG; first | trivial | (simp; done) | (simp; omega) | (simp at *; done) | (simp at *; omega))) ?_ | refine DrawA_nil ?_)
  refine DrawA_op rfl (ops_of (opys_call (c3) rfl rfl rfl (by first | trivial | (simp; done) | (simp; omega) | (simp at *; done) | (simp at *; omega)) rfl rfl rfl) rfl) ?_
  refine DrawA_op rfl (ops_of (opys_call (c4) rfl rfl rfl (by first | trivial | (simp; done) | (simp; omega) | (simp at *; done) | (simp at *; omega)) rfl rfl rfl) rfl) ?_
  repeat (first | refine DrawA_op rfl (ops_pure true rfl rfl (by first | trivial | (simp; done) | (simp; omega) | (simp at *; done) | (simp at *; omega))) ?_ | refine DrawA_op rfl (ops_pureG true rfl rfl rfl (by intro hG; first | trivial | (simp; done) | (simp; omega) | (simp at *; done) | (simp at *; omega))) ?_ | refine DrawA_nil ?_)
  refine DrawA_al rfl rfl rfl rfl zok30 rfl ?_
  repeat (first | refine DrawA_op rfl (ops_pure true rfl rfl (by first | trivial | (simp; done) | (simp; omega) | (simp at *; done) | (simp at *; omega))) ?_ | refine DrawA_op rfl (ops_pureG true rfl rfl rfl (by intro hG; first | trivial | (simp; done) | (simp; omega) | (simp at *; done) | (simp at *; omega))) ?_ | refine DrawA_nil ?_)
  refine s_storeN rfl rfl rfl rfl rfl (by first | trivial | (simp; done) | (simp; omega) | (simp at *; done) | (simp at *; omega)) rfl rfl rfl (by rw [cellsOf30]; rfl) (by rw [info30]; rfl) rfl rfl ?_
  repeat (first | refine W_seq ?_ | refine W_region ?_ | refine W_block ?_ | refine W_skip ?_ | refine W_ret ?_ | refine W_exit ?_ | refine WL_nil ?_ | refine N_then ?_ | refine N_then_exit ?_ | refine N_then_ret ?_ | refine N_block ?_ | refine N_block_ret ?_ | refine N_block_exit ?_ | refine N_block_pass rfl ?_ | refine sp true rfl rfl (by rw [hn]; rfl) (by first | trivial | (simp; done) | (simp; omega) | (simp at *; done) | (simp at *; omega)) ?_ | refine sg true rfl rfl rfl (by rw [hn]; rfl) (by intro hG; first | trivial | (simp; done) | (simp; omega) | (simp at *; done) | (simp at *; omega)) ?_)
  refine W_drawW 50 (by kernel_rfl) (by kernel_rfl) (by kernel_rfl) (by rw [hn]; rfl) rfl rfl ?_
  refine DrawW_cons rfl (ops_of (opys_call (known_ok) rfl rfl rfl (by first | trivial | (simp; done) | (simp; omega) | (simp at *; done) | (simp at *; omega)) rfl rfl rfl) rfl) ?_
  repeat (first | refine DrawW_cons rfl (ops_pure true rfl rfl (by first | trivial | (simp; done) | (simp; omega) | (simp at *; done) | (simp at *; omega))) ?_ | refine DrawW_cons rfl (ops_pureG true rfl rfl rfl (by intro hG; first | trivial | (simp; done) | (simp; omega) | (simp at *; done) | (simp at *; omega))) ?_ | refine DrawW_nil ?_)
  refine DrawW_cons rfl (ops_ofG rfl rfl (fun hG => opys_call (c5) rfl rfl rfl (by first | exact hG | (first | trivial | (simp; done) | (simp; omega) | (simp at *; done) | (simp at *; omega))) rfl rfl rfl)) ?_
  repeat (first | refine DrawW_cons rfl (ops_pure true rfl rfl (by first | trivial | (simp; done) | (simp; omega) | (simp at *; done) | (simp at *; omega))) ?_ | refine DrawW_cons rfl (ops_pureG true rfl rfl rfl (by intro hG; first | trivial | (simp; done) | (simp; omega) | (simp at *; done) | (simp at *; omega))) ?_ | refine DrawW_nil ?_)
  refine DrawW_cons rfl (ops_ofG rfl rfl (fun hG => opys_call (c6) rfl rfl rfl (by first | exact hG | (first | trivial | (simp; done) | (simp; omega) | (simp at *; done) | (simp at *; omega))) rfl rfl rfl)) ?_
  refine DrawW_cons rfl (ops_ofG rfl rfl (fun hG => opys_call (c7) rfl rfl rfl (by first | exact hG | (first | trivial | (simp; done) | (simp; omega) | (simp at *; done) | (simp at *; omega))) rfl rfl rfl)) ?_
  repeat (first | refine DrawW_cons rfl (ops_pure true rfl rfl (by first | trivial | (simp; done) | (simp; omega) | (simp at *; done) | (simp at *; omega))) ?_ | refine DrawW_cons rfl (ops_pureG true rfl rfl rfl (by intro hG; first | trivial | (simp; done) | (simp; omega) | (simp at *; done) | (simp at *; omega))) ?_ | refine DrawW_nil ?_)
  refine DrawW_cons rfl (ops_ofG rfl rfl (fun hG => opys_call (c8) rfl rfl rfl (by first | exact hG | (first | trivial | (simp; done) | (simp; omega) | (simp at *; done) | (simp at *; omega))) rfl rfl rfl)) ?_
  repeat (first | refine DrawW_cons rfl (ops_pure true rfl rfl (by first | trivial | (simp; done) | (simp; omega) | (simp at *; done) | (simp at *; omega))) ?_ | refine DrawW_cons rfl (ops_pureG true rfl rfl rfl (by intro hG; first | trivial | (simp; done) | (simp; omega) | (simp at *; done) | (simp at *; omega))) ?_ | refine DrawW_nil ?_)
  refine DrawW_cons rfl (ops_ofG rfl rfl (fun hG => opys_call (c1) rfl rfl rfl (by first | exact hG | (first | trivial | (simp; done) | (simp; omega) | (simp at *; done) | (simp at *; omega))) rfl rfl rfl)) ?_
  repeat (first | refine DrawW_cons rfl (ops_pure true rfl rfl (by first | trivial | (simp; done) | (simp; omega) | (simp at *; done) | (simp at *; omega))) ?_ | refine DrawW_cons rfl (ops_pureG true rfl rfl rfl (by intro hG; first | trivial | (simp; done) | (simp; omega) | (simp at *; done) | (simp at *; omega))) ?_ | refine DrawW_nil ?_)
  refine DrawW_cons rfl (ops_ofG rfl rfl (fun hG => opys_call (c9) rfl rfl rfl (by first | exact hG | (first | trivial | (simp; done) | (simp; omega) | (simp at *; done) | (simp at *; omega))) rfl rfl rfl)) ?_
  refine DrawW_cons rfl (ops_ofG rfl rfl (fun hG => opys_call (c10) rfl rfl rfl (by first | exact hG | (first | trivial | (simp; done) | (simp; omega) | (simp at *; done) | (simp at *; omega))) rfl rfl rfl)) ?_
  repeat (first | refine DrawW_cons rfl (ops_pure true rfl rfl (by first | trivial | (simp; done) | (simp; omega) | (simp at *; done) | (simp at *; omega))) ?_ | refine DrawW_cons rfl (ops_pureG true rfl rfl rfl (by intro hG; first | trivial | (simp; done) | (simp; omega) | (simp at *; done) | (simp at *; omega))) ?_ | refine DrawW_nil ?_)
  refine DrawW_cons rfl (ops_ofG rfl rfl (fun hG => opys_call (c11) rfl rfl rfl (by first | exact hG | (first | trivial | (simp; done) | (simp; omega) | (simp at *; done) | (simp at *; omega))) rfl rfl rfl)) ?_
  repeat (first | refine DrawW_cons rfl (ops_pure true rfl rfl (by first | trivial | (simp; done) | (simp; omega) | (simp at *; done) | (simp at *; omega))) ?_ | refine DrawW_cons rfl (ops_pureG true rfl rfl rfl (by intro hG; first | trivial | (simp; done) | (simp; omega) | (simp at *; done) | (simp at *; omega))) ?_ | refine DrawW_nil ?_)
  refine DrawW_cons rfl (ops_ofG rfl rfl (fun hG => opys_call (c12) rfl rfl rfl (by first | exact hG | (first | trivial | (simp; done) | (simp; omega) | (simp at *; done) | (simp at *; omega))) rfl rfl rfl)) ?_
  repeat (first | refine DrawW_cons rfl (ops_pure true rfl rfl (by first | trivial | (simp; done) | (simp; omega) | (simp at *; done) | (simp at *; omega))) ?_ | refine DrawW_cons rfl (ops_pureG true rfl rfl rfl (by intro hG; first | trivial | (simp; done) | (simp; omega) | (simp at *; done) | (simp at *; omega))) ?_ | refine DrawW_nil ?_)
  refine DrawW_cons rfl (ops_ofG rfl rfl (fun hG => opys_call (c13) rfl rfl rfl (by first | exact hG | (first | trivial | (simp; done) | (simp; omega) | (simp at *; done) | (simp at *; omega))) rfl rfl rfl)) ?_
  refine DrawW_cons rfl (ops_ofG rfl rfl (fun hG => opys_call (c14) rfl rfl rfl (by first | exact hG | (first | trivial | (simp; done) | (simp; omega) | (simp at *; done) | (simp at *; omega))) rfl rfl rfl)) ?_
  repeat (first | refine DrawW_cons rfl (ops_pure true rfl rfl (by first | trivial | (simp; done) | (simp; omega) | (simp at *; done) | (simp at *; omega))) ?_ | refine DrawW_cons rfl (ops_pureG true rfl rfl rfl (by intro hG; first | trivial | (simp; done) | (simp; omega) | (simp at *; done) | (simp at *; omega))) ?_ | refine DrawW_nil ?_)
  refine DrawW_cons rfl (ops_ofG rfl rfl (fun hG => opys_call (c15) rfl rfl rfl (by first | exact hG | (first | trivial | (simp; done) | (simp; omega) | (simp at *; done) | (simp at *; omega))) rfl rfl rfl)) ?_
  repeat (first | refine DrawW_cons rfl (ops_pure true rfl rfl (by first | trivial | (simp; done) | (simp; omega) | (simp at *; done) | (simp at *; omega))) ?_ | refine DrawW_cons rfl (ops_pureG true rfl rfl rfl (by intro hG; first | trivial | (simp; done) | (simp; omega) | (simp at *; done) | (simp at *; omega))) ?_ | refine DrawW_nil ?_)
  refine DrawW_cons rfl (ops_ofG rfl rfl (fun hG => opys_call (c16) rfl rfl rfl (by first | exact hG | (first | trivial | (simp; done) | (simp; omega) | (simp at *; done) | (simp at *; omega))) rfl rfl rfl)) ?_
  repeat (first | refine DrawW_cons rfl (ops_pure true rfl rfl (by first | trivial | (simp; done) | (simp; omega) | (simp at *; done) | (simp at *; omega))) ?_ | refine DrawW_cons rfl (ops_pureG true rfl rfl rfl (by intro hG; first | trivial | (simp; done) | (simp; omega) | (simp at *; done) | (simp at *; omega))) ?_ | refine DrawW_nil ?_)
  refine DrawW_cons rfl (ops_ofG rfl rfl (fun hG => opys_call (c15) rfl rfl rfl (by first | exact hG | (first | trivial | (simp; done) | (simp; omega) | (simp at *; done) | (simp at *; omega))) rfl rfl rfl)) ?_
  repeat (first | refine DrawW_cons rfl (ops_pure true rfl rfl (by first | trivial | (simp; done) | (simp; omega) | (simp at *; done) | (simp at *; omega))) ?_ | refine DrawW_cons rfl (ops_pureG true rfl rfl rfl (by intro hG; first | trivial | (simp; done) | (simp; omega) | (simp at *; done) | (simp at *; omega))) ?_ | refine DrawW_nil ?_)
  repeat (first | refine W_seq ?_ | refine W_region ?_ | refine W_block ?_ | refine W_skip ?_ | refine W_ret ?_ | refine W_exit ?_ | refine WL_nil ?_ | refine N_then ?_ | refine N_then_exit ?_ | refine N_then_ret ?_ | refine N_block ?_ | refine N_block_ret ?_ | refine N_block_exit ?_ | refine N_block_pass rfl ?_ | refine sp true rfl rfl (by rw [hn]; rfl) (by first | trivial | (simp; done) | (simp; omega) | (simp at *; done) | (simp at *; omega)) ?_ | refine sg true rfl rfl rfl (by rw [hn]; rfl) (by intro hG; first | trivial | (simp; done) | (simp; omega) | (simp at *; done) | (simp at *; omega)) ?_)
  have e1 : cmpI (x + y + z) (x + (z + y)) = 0 := by unfold cmpI; rw [if_neg (by omega), if_neg (by omega)]
  have e2 : cmpI (x + -x) 0 = 0 := by unfold cmpI; rw [if_neg (by omega), if_neg (by omega)]
  have e3 : cmpI (x + y + -y) x = 0 := by unfold cmpI; rw [if_neg (by omega), if_neg (by omega)]
  have e4 : cmpI (x + z) (y + z) = cmpI x y := by
    unfold cmpI
    by_cases h1 : x < y
    · rw [if_pos h1, if_pos (by omega)]
    · by_cases h2 : y < x
      · rw [if_neg h1, if_pos h2, if_neg (by omega), if_pos (by omega)]
      · rw [if_neg h1, if_neg h2, if_neg (by omega), if_neg (by omega)]
  have e5 : cmpI y x = -cmpI x y := by
    unfold cmpI
    by_cases h1 : x < y
    · rw [if_pos h1, if_neg (by omega), if_pos h1]; rfl
    · by_cases h2 : y < x
      · rw [if_pos h2, if_neg h1, if_pos h2]
      · rw [if_neg h2, if_neg h1, if_neg h1, if_neg h2]; rfl
  refine N_retN [] rfl (by first | trivial | (simp; done) | (simp; omega) | (simp at *; done) | (simp at *; omega)) ⟨?_, by first | trivial | exact ⟨rfl, rfl⟩, ?_, rfl⟩ hb rfl (by first | trivial | (simp; done))
  · rw [e1, e2, e3, e4, e5]
    simp
    rfl
  · trivial
end Go.Proofs.Ytppmfjopokkhmaa

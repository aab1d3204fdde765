/-
  Chapter 03: sums, opposites, order, the program's way, by values. The conditions: rows of at most ten thousand bytes.
-/
import Derived.Test.YtppmfjopokkhmaaW27
namespace Go.Proofs.Ytppmfjopokkhmaa
set_option linter.unusedSimpArgs false
set_option linter.unusedVariables false
open Go.Sx

set_option maxRecDepth 10000

def zOf (b : Bool) (l : List Int) : Int := cond b (-(valA 0 l)) (valA 0 l)
theorem zOf_t (l : List Int) : zOf true l = -(valA 0 l) := rfl
theorem zOf_f (l : List Int) : zOf false l = valA 0 l := rfl
abbrev numZ (z : Int) : Av := numA (decide (z < 0)) (digL z.natAbs)
theorem made_Z (b : Bool) (l : List Int) (hw : WfB l) : madeB b l = decide (zOf b l < 0) ∧ trimL l = digL (zOf b l).natAbs := by
  have h0 := val_nonneg l 0 (by decide) hw
  have hn : (zOf b l).natAbs = (valA 0 l).toNat := by cases b <;> simp only [zOf, cond_true, cond_false] <;> omega
  have ht : trimL l = digL (valA 0 l).toNat := trim_dig l _ hw (by omega)
  refine ⟨?_, by rw [hn, ht]⟩
  cases b with
  | false =>
    have : ¬ zOf false l < 0 := by simp only [zOf, cond_false]; omega
    simp only [madeB, cond_false, this, decide_false]
  | true =>
    rw [madeB, ht]
    by_cases hv : (valA 0 l).toNat = 0
    · have : ¬ zOf true l < 0 := by simp only [zOf, cond_true]; omega
      simp only [cond_true, hv, dig_zero, this]; rfl
    · have : zOf true l < 0 := by simp only [zOf, cond_true]; omega
      obtain ⟨d1, d2, d3⟩ := dig_spec (valA 0 l).toNat (valA 0 l).toNat (Nat.le_refl _)
      have hne : digL (valA 0 l).toNat ≠ [] := by intro h; rw [h] at d3; simp [valA] at d3; omega
      have := List.length_pos_iff.2 hne
      simp only [cond_true]
      rw [decide_eq_decide]
      omega
theorem made_numZ (b : Bool) (l : List Int) (hw : WfB l) : numA (madeB b l) (trimL l) = numZ (zOf b l) := by
  obtain ⟨h1, h2⟩ := made_Z b l hw
  rw [h1, h2]
theorem zOf_numZ (z : Int) : zOf (decide (z < 0)) (digL z.natAbs) = z := by
  obtain ⟨d1, d2, d3⟩ := dig_spec z.natAbs z.natAbs (Nat.le_refl _)
  unfold zOf
  rw [d3]
  by_cases h : z < 0
  · simp only [h, decide_true, cond_true]; omega
  · simp only [h, decide_false, cond_false]; omega
theorem zOf_made (b : Bool) (l : List Int) (hw : WfB l) : zOf (madeB b l) (trimL l) = zOf b l := by
  obtain ⟨h1, h2⟩ := made_Z b l hw
  rw [h1, h2, zOf_numZ]

theorem madeZ_ok (b : Bool) (l : List Int) (hl : l.length ≤ 1000000) (hw : WfB l) : Ct Try.prog 65 [lv (.bool b), B8 l] [] (numZ (zOf b l)) [] [] := by
  have := made_ok b l hl
  rwa [made_numZ b l hw] at this

theorem neg_ok (b : Bool) (l : List Int) (hl : l.length ≤ 1000000) (hw : WfB l) : Ct Try.prog 51 [numA b l] [] (numZ (-(zOf b l))) [] [] := by
  have e : zOf (!b) l = -(zOf b l) := by cases b <;> simp [zOf]
  have hm := madeZ_ok (!b) l hl hw
  rw [e] at hm
  refine Ct_intro Try.func51 rfl rfl rfl rfl rfl (fun E hn hb => ?_)
  repeat (first | refine W_seq ?_ | refine W_region ?_ | refine W_block ?_ | refine W_skip ?_ | refine W_ret ?_ | refine W_exit ?_ | refine WL_nil ?_ | refine N_then ?_ | refine N_then_exit ?_ | refine N_then_ret ?_ | refine N_block ?_ | refine N_block_ret ?_ | refine N_block_exit ?_ | refine N_block_pass rfl ?_ | refine sp true rfl rfl (by rw [hn]; rfl) (by first | trivial | (simp; done) | (simp; omega) | (simp at *; done) | (simp at *; omega)) ?_ | refine sg true rfl rfl rfl (by rw [hn]; rfl) (by intro hG; first | trivial | (simp; done) | (simp; omega) | (simp at *; done) | (simp at *; omega)) ?_)
  refine s_boxN rfl rfl rfl (by rw [hn]; rfl) rfl (by first | trivial | (simp; done) | (simp; omega) | (simp at *; done) | (simp at *; omega)) rfl rfl ?_
  refine s_allocN rfl rfl rfl (by rw [hn]; rfl) rfl zok30 ?_
  repeat (first | refine W_seq ?_ | refine W_region ?_ | refine W_block ?_ | refine W_skip ?_ | refine W_ret ?_ | refine W_exit ?_ | refine WL_nil ?_ | refine N_then ?_ | refine N_then_exit ?_ | refine N_then_ret ?_ | refine N_block ?_ | refine N_block_ret ?_ | refine N_block_exit ?_ | refine N_block_pass rfl ?_ | refine sp true rfl rfl (by rw [hn]; rfl) (by first | trivial | (simp; done) | (simp; omega) | (simp at *; done) | (simp at *; omega)) ?_ | refine sg true rfl rfl rfl (by rw [hn]; rfl) (by intro hG; first | trivial | (simp; done) | (simp; omega) | (simp at *; done) | (simp at *; omega)) ?_)
  refine s_call0 (hm) rfl rfl rfl (by rw [hn]; rfl) rfl rfl (by first | trivial | (simp; done) | (simp; omega) | (simp at *; done) | (simp at *; omega)) rfl rfl rfl ?_
  refine s_storeN rfl rfl rfl rfl rfl (by first | trivial | (simp; done) | (simp; omega) | (simp at *; done) | (simp at *; omega)) rfl rfl rfl (by rw [cellsOf30]; rfl) (by rw [info30]; rfl) rfl rfl ?_
  repeat (first | refine W_seq ?_ | refine W_region ?_ | refine W_block ?_ | refine W_skip ?_ | refine W_ret ?_ | refine W_exit ?_ | refine WL_nil ?_ | refine N_then ?_ | refine N_then_exit ?_ | refine N_then_ret ?_ | refine N_block ?_ | refine N_block_ret ?_ | refine N_block_exit ?_ | refine N_block_pass rfl ?_ | refine sp true rfl rfl (by rw [hn]; rfl) (by first | trivial | (simp; done) | (simp; omega) | (simp at *; done) | (simp at *; omega)) ?_ | refine sg true rfl rfl rfl (by rw [hn]; rfl) (by intro hG; first | trivial | (simp; done) | (simp; omega) | (simp at *; done) | (simp at *; omega)) ?_)
  exact N_retN [] rfl (by first | trivial | (simp; done) | (simp; omega) | (simp at *; done) | (simp at *; omega)) ⟨rfl, by first | trivial | exact ⟨rfl, rfl⟩, by first | trivial | exact rfl | exact ⟨rfl, rfl⟩, rfl⟩ hb rfl (by first | trivial | (simp; done))

theorem plus_ok (l m : List Int) (hl : l.length ≤ 99999) (hm : m.length ≤ 99999) (hwl : WfB l) (hwm : WfB m) : Ct Try.prog 83 [B8 l, B8 m] [] (B8 (plusL l m)) [] [] :=
  (plus_own l m hl hm hwl hwm).freeze ⟨rfl, rfl, rfl, by simp, by simp⟩ rfl
theorem minus_ok (l m : List Int) (hl : l.length ≤ 99999) (hlen : m.length ≤ l.length) (hwl : WfB l) (hwm : WfB m) : Ct Try.prog 85 [B8 l, B8 m] [] (B8 (minusL l m)) [] [] :=
  (minus_own l m hl hlen hwl hwm).freeze ⟨rfl, rfl, rfl, by simp, by simp⟩ rfl

theorem compareZ_ok (b c : Bool) (l m : List Int) (hl : l.length ≤ 99999) (hm : m.length ≤ 99999) (hwl : WfB l) (hwm : WfB m) : Ct Try.prog 50 [numA b l, numA c m] [] (lv (.int .i64 (cmpI (zOf b l) (zOf c m)))) [] [] := by
  have hz1 := zOf_made b l hwl
  have hz2 := zOf_made c m hwm
  have hws := wf_trim hwl
  have hwt := wf_trim hwm
  have hts := trim_idem l
  have htt := trim_idem m
  have hls := len_trim l
  have hlt := len_trim m
  have hne1 := @madeB_ne b l
  have hne2 := @madeB_ne c m
  rw [← hz1, ← hz2]
  refine Ct_intro Try.func50 rfl rfl rfl rfl rfl (fun E hn hb => ?_)
  repeat (first | refine W_seq ?_ | refine W_region ?_ | refine W_block ?_ | refine W_skip ?_ | refine W_ret ?_ | refine W_exit ?_ | refine WL_nil ?_ | refine N_then ?_ | refine N_then_exit ?_ | refine N_then_ret ?_ | refine N_block ?_ | refine N_block_ret ?_ | refine N_block_exit ?_ | refine N_block_pass rfl ?_ | refine sp true rfl rfl (by rw [hn]; rfl) (by first | trivial | (simp; done) | (simp; omega) | (simp at *; done) | (simp at *; omega)) ?_ | refine sg true rfl rfl rfl (by rw [hn]; rfl) (by intro hG; first | trivial | (simp; done) | (simp; omega) | (simp at *; done) | (simp at *; omega)) ?_)
  refine s_boxN rfl rfl rfl (by rw [hn]; rfl) rfl (by first | trivial | (simp; done) | (simp; omega) | (simp at *; done) | (simp at *; omega)) rfl rfl ?_
  refine s_boxN rfl rfl rfl (by rw [hn]; rfl) rfl (by first | trivial | (simp; done) | (simp; omega) | (simp at *; done) | (simp at *; omega)) rfl rfl ?_
  repeat (first | refine W_seq ?_ | refine W_region ?_ | refine W_block ?_ | refine W_skip ?_ | refine W_ret ?_ | refine W_exit ?_ | refine WL_nil ?_ | refine N_then ?_ | refine N_then_exit ?_ | refine N_then_ret ?_ | refine N_block ?_ | refine N_block_ret ?_ | refine N_block_exit ?_ | refine N_block_pass rfl ?_ | refine sp true rfl rfl (by rw [hn]; rfl) (by first | trivial | (simp; done) | (simp; omega) | (simp at *; done) | (simp at *; omega)) ?_ | refine sg true rfl rfl rfl (by rw [hn]; rfl) (by intro hG; first | trivial | (simp; done) | (simp; omega) | (simp at *; done) | (simp at *; omega)) ?_)
  refine W_drawW 10 (by kernel_rfl) (by kernel_rfl) (by kernel_rfl) (by rw [hn]; rfl) rfl rfl ?_
  repeat (first | refine DrawW_cons rfl (ops_pure true rfl rfl (by first | trivial | (simp; done) | (simp; omega) | (simp at *; done) | (simp at *; omega))) ?_ | refine DrawW_cons rfl (ops_pureG true rfl rfl rfl (by intro hG; first | trivial | (simp; done) | (simp; omega) | (simp at *; done) | (simp at *; omega))) ?_ | refine DrawW_nil ?_)
  refine DrawW_cons rfl (ops_of (opys_call (made_ok b l (by omega)) rfl rfl rfl (by first | trivial | (simp; done) | (simp; omega) | (simp at *; done) | (simp at *; omega)) rfl rfl rfl) rfl) ?_
  repeat (first | refine DrawW_cons rfl (ops_pure true rfl rfl (by first | trivial | (simp; done) | (simp; omega) | (simp at *; done) | (simp at *; omega))) ?_ | refine DrawW_cons rfl (ops_pureG true rfl rfl rfl (by intro hG; first | trivial | (simp; done) | (simp; omega) | (simp at *; done) | (simp at *; omega))) ?_ | refine DrawW_nil ?_)
  refine DrawW_cons rfl (ops_of (opys_call (made_ok c m (by omega)) rfl rfl rfl (by first | trivial | (simp; done) | (simp; omega) | (simp at *; done) | (simp at *; omega)) rfl rfl rfl) rfl) ?_
  repeat (first | refine DrawW_cons rfl (ops_pure true rfl rfl (by first | trivial | (simp; done) | (simp; omega) | (simp at *; done) | (simp at *; omega))) ?_ | refine DrawW_cons rfl (ops_pureG true rfl rfl rfl (by intro hG; first | trivial | (simp; done) | (simp; omega) | (simp at *; done) | (simp at *; omega))) ?_ | refine DrawW_nil ?_)
  refine s_storeN rfl rfl rfl rfl rfl (by first | trivial | (simp; done) | (simp; omega) | (simp at *; done) | (simp at *; omega)) rfl rfl rfl (by rw [cellsOf30]; rfl) (by rw [info30]; rfl) rfl rfl ?_
  refine s_storeN rfl rfl rfl rfl rfl (by first | trivial | (simp; done) | (simp; omega) | (simp at *; done) | (simp at *; omega)) rfl rfl rfl (by rw [cellsOf30]; rfl) (by rw [info30]; rfl) rfl rfl ?_
  repeat (first | refine W_seq ?_ | refine W_region ?_ | refine W_block ?_ | refine W_skip ?_ | refine W_ret ?_ | refine W_exit ?_ | refine WL_nil ?_ | refine N_then ?_ | refine N_then_exit ?_ | refine N_then_ret ?_ | refine N_block ?_ | refine N_block_ret ?_ | refine N_block_exit ?_ | refine N_block_pass rfl ?_ | refine sp true rfl rfl (by rw [hn]; rfl) (by first | trivial | (simp; done) | (simp; omega) | (simp at *; done) | (simp at *; omega)) ?_ | refine sg true rfl rfl rfl (by rw [hn]; rfl) (by intro hG; first | trivial | (simp; done) | (simp; omega) | (simp at *; done) | (simp at *; omega)) ?_)
  generalize madeB b l = be at *
  generalize madeB c m = ce at *
  generalize trimL l = s at *
  generalize trimL m = t at *
  have hv1 : be = true → 0 < valA 0 s := fun h => val_len (a := []) (b := s) (List.length_pos_iff.2 (hne1 h)) (fun x hx => by cases hx) hws hts
  have hv2 : ce = true → 0 < valA 0 t := fun h => val_len (a := []) (b := t) (List.length_pos_iff.2 (hne2 h)) (fun x hx => by cases hx) hwt htt
  have hn1 := val_nonneg s 0 (by decide) hws
  have hn2 := val_nonneg t 0 (by decide) hwt
  clear hz1 hz2 hne1 hne2
  refine W_cond rfl (by simp) (fun hq => ?_) (fun hq => ?_)
  · have hbc : be = true ∧ ce = false := by cases be <;> cases ce <;> simp at hq ⊢
    obtain ⟨rfl, rfl⟩ := hbc
    have e : cmpI (zOf true s) (zOf false t) = -1 := by
      have := hv1 rfl
      rw [zOf_t, zOf_f, cmpI, if_pos (by omega)]
    rw [e]
    repeat (first | refine W_seq ?_ | refine W_region ?_ | refine W_block ?_ | refine W_skip ?_ | refine W_ret ?_ | refine W_exit ?_ | refine WL_nil ?_ | refine N_then ?_ | refine N_then_exit ?_ | refine N_then_ret ?_ | refine N_block ?_ | refine N_block_ret ?_ | refine N_block_exit ?_ | refine N_block_pass rfl ?_ | refine sp true rfl rfl (by rw [hn]; rfl) (by first | trivial | (simp; done) | (simp; omega) | (simp at *; done) | (simp at *; omega)) ?_ | refine sg true rfl rfl rfl (by rw [hn]; rfl) (by intro hG; first | trivial | (simp; done) | (simp; omega) | (simp at *; done) | (simp at *; omega)) ?_)
    exact N_retN [] rfl (by first | trivial | (simp; done) | (simp; omega) | (simp at *; done) | (simp at *; omega)) ⟨rfl, by first | trivial | exact ⟨rfl, rfl⟩, by first | trivial | exact rfl | exact ⟨rfl, rfl⟩, rfl⟩ hb rfl (by first | trivial | (simp; done))
  · repeat (first | refine W_seq ?_ | refine W_region ?_ | refine W_block ?_ | refine W_skip ?_ | refine W_ret ?_ | refine W_exit ?_ | refine WL_nil ?_ | refine N_then ?_ | refine N_then_exit ?_ | refine N_then_ret ?_ | refine N_block ?_ | refine N_block_ret ?_ | refine N_block_exit ?_ | refine N_block_pass rfl ?_ | refine sp true rfl rfl (by rw [hn]; rfl) (by first | trivial | (simp; done) | (simp; omega) | (simp at *; done) | (simp at *; omega)) ?_ | refine sg true rfl rfl rfl (by rw [hn]; rfl) (by intro hG; first | trivial | (simp; done) | (simp; omega) | (simp at *; done) | (simp at *; omega)) ?_)
    refine W_cond rfl (by simp) (fun hr => ?_) (fun hr => ?_)
    · have hbc : be = false ∧ ce = true := by cases be <;> cases ce <;> simp at hr ⊢
      obtain ⟨rfl, rfl⟩ := hbc
      have e : cmpI (zOf false s) (zOf true t) = 1 := by
        have := hv2 rfl
        rw [zOf_t, zOf_f, cmpI, if_neg (by omega), if_pos (by omega)]
      rw [e]
      repeat (first | refine W_seq ?_ | refine W_region ?_ | refine W_block ?_ | refine W_skip ?_ | refine W_ret ?_ | refine W_exit ?_ | refine WL_nil ?_ | refine N_then ?_ | refine N_then_exit ?_ | refine N_then_ret ?_ | refine N_block ?_ | refine N_block_ret ?_ | refine N_block_exit ?_ | refine N_block_pass rfl ?_ | refine sp true rfl rfl (by rw [hn]; rfl) (by first | trivial | (simp; done) | (simp; omega) | (simp at *; done) | (simp at *; omega)) ?_ | refine sg true rfl rfl rfl (by rw [hn]; rfl) (by intro hG; first | trivial | (simp; done) | (simp; omega) | (simp at *; done) | (simp at *; omega)) ?_)
      exact N_retN [] rfl (by first | trivial | (simp; done) | (simp; omega) | (simp at *; done) | (simp at *; omega)) ⟨rfl, by first | trivial | exact ⟨rfl, rfl⟩, by first | trivial | exact rfl | exact ⟨rfl, rfl⟩, rfl⟩ hb rfl (by first | trivial | (simp; done))
    · repeat (first | refine W_seq ?_ | refine W_region ?_ | refine W_block ?_ | refine W_skip ?_ | refine W_ret ?_ | refine W_exit ?_ | refine WL_nil ?_ | refine N_then ?_ | refine N_then_exit ?_ | refine N_then_ret ?_ | refine N_block ?_ | refine N_block_ret ?_ | refine N_block_exit ?_ | refine N_block_pass rfl ?_ | refine sp true rfl rfl (by rw [hn]; rfl) (by first | trivial | (simp; done) | (simp; omega) | (simp at *; done) | (simp at *; omega)) ?_ | refine sg true rfl rfl rfl (by rw [hn]; rfl) (by intro hG; first | trivial | (simp; done) | (simp; omega) | (simp at *; done) | (simp at *; omega)) ?_)
      refine W_cond rfl (by simp) (fun hu => ?_) (fun hu => ?_)
      · have hbc : be = true ∧ ce = true := by cases be <;> cases ce <;> simp at hq hr hu ⊢
        obtain ⟨rfl, rfl⟩ := hbc
        have hsz := sizes_ok t s (by omega) (by omega)
        have e : sizesL t s = cmpI (zOf true s) (zOf true t) := by
          rw [sizes_val t s hwt hws htt hts]
          rw [zOf_t, zOf_t, cmpI, cmpI]
          by_cases h1 : valA 0 t < valA 0 s
          · rw [if_pos h1, if_pos (by omega)]
          · by_cases h2 : valA 0 s < valA 0 t
            · rw [if_neg h1, if_pos h2, if_neg (by omega), if_pos (by omega)]
            · rw [if_neg h1, if_neg h2, if_neg (by omega), if_neg (by omega)]
        rw [e] at hsz
        repeat (first | refine W_seq ?_ | refine W_region ?_ | refine W_block ?_ | refine W_skip ?_ | refine W_ret ?_ | refine W_exit ?_ | refine WL_nil ?_ | refine N_then ?_ | refine N_then_exit ?_ | refine N_then_ret ?_ | refine N_block ?_ | refine N_block_ret ?_ | refine N_block_exit ?_ | refine N_block_pass rfl ?_ | refine sp true rfl rfl (by rw [hn]; rfl) (by first | trivial | (simp; done) | (simp; omega) | (simp at *; done) | (simp at *; omega)) ?_ | refine sg true rfl rfl rfl (by rw [hn]; rfl) (by intro hG; first | trivial | (simp; done) | (simp; omega) | (simp at *; done) | (simp at *; omega)) ?_)
        refine s_call0 (hsz) rfl rfl rfl (by rw [hn]; rfl) rfl rfl (by first | trivial | (simp; done) | (simp; omega) | (simp at *; done) | (simp at *; omega)) rfl rfl rfl ?_
        repeat (first | refine W_seq ?_ | refine W_region ?_ | refine W_block ?_ | refine W_skip ?_ | refine W_ret ?_ | refine W_exit ?_ | refine WL_nil ?_ | refine N_then ?_ | refine N_then_exit ?_ | refine N_then_ret ?_ | refine N_block ?_ | refine N_block_ret ?_ | refine N_block_exit ?_ | refine N_block_pass rfl ?_ | refine sp true rfl rfl (by rw [hn]; rfl) (by first | trivial | (simp; done) | (simp; omega) | (simp at *; done) | (simp at *; omega)) ?_ | refine sg true rfl rfl rfl (by rw [hn]; rfl) (by intro hG; first | trivial | (simp; done) | (simp; omega) | (simp at *; done) | (simp at *; omega)) ?_)
        exact N_retN [] rfl (by first | trivial | (simp; done) | (simp; omega) | (simp at *; done) | (simp at *; omega)) ⟨rfl, by first | trivial | exact ⟨rfl, rfl⟩, by first | trivial | exact rfl | exact ⟨rfl, rfl⟩, rfl⟩ hb rfl (by first | trivial | (simp; done))
      · have hbc : be = false ∧ ce = false := by cases be <;> cases ce <;> simp at hq hr hu ⊢
        obtain ⟨rfl, rfl⟩ := hbc
        have hsz := sizes_ok s t (by omega) (by omega)
        rw [sizes_val s t hws hwt hts htt] at hsz
        repeat (first | refine W_seq ?_ | refine W_region ?_ | refine W_block ?_ | refine W_skip ?_ | refine W_ret ?_ | refine W_exit ?_ | refine WL_nil ?_ | refine N_then ?_ | refine N_then_exit ?_ | refine N_then_ret ?_ | refine N_block ?_ | refine N_block_ret ?_ | refine N_block_exit ?_ | refine N_block_pass rfl ?_ | refine sp true rfl rfl (by rw [hn]; rfl) (by first | trivial | (simp; done) | (simp; omega) | (simp at *; done) | (simp at *; omega)) ?_ | refine sg true rfl rfl rfl (by rw [hn]; rfl) (by intro hG; first | trivial | (simp; done) | (simp; omega) | (simp at *; done) | (simp at *; omega)) ?_)
        refine s_call0 (hsz) rfl rfl rfl (by rw [hn]; rfl) rfl rfl (by first | trivial | (simp; done) | (simp; omega) | (simp at *; done) | (simp at *; omega)) rfl rfl rfl ?_
        repeat (first | refine W_seq ?_ | refine W_region ?_ | refine W_block ?_ | refine W_skip ?_ | refine W_ret ?_ | refine W_exit ?_ | refine WL_nil ?_ | refine N_then ?_ | refine N_then_exit ?_ | refine N_then_ret ?_ | refine N_block ?_ | refine N_block_ret ?_ | refine N_block_exit ?_ | refine N_block_pass rfl ?_ | refine sp true rfl rfl (by rw [hn]; rfl) (by first | trivial | (simp; done) | (simp; omega) | (simp at *; done) | (simp at *; omega)) ?_ | refine sg true rfl rfl rfl (by rw [hn]; rfl) (by intro hG; first | trivial | (simp; done) | (simp; omega) | (simp at *; done) | (simp at *; omega)) ?_)
        exact N_retN [] rfl (by first | trivial | (simp; done) | (simp; omega) | (simp at *; done) | (simp at *; omega)) ⟨rfl, by first | trivial | exact ⟨rfl, rfl⟩, by first | trivial | exact rfl | exact ⟨rfl, rfl⟩, rfl⟩ hb rfl (by first | trivial | (simp; done))

theorem add_ok (b c : Bool) (l m : List Int) (hl : l.length ≤ 99000) (hm : m.length ≤ 99000) (hwl : WfB l) (hwm : WfB m) : Ct Try.prog 49 [numA b l, numA c m] [] (numZ (zOf b l + zOf c m)) [] [] := by
  have hz1 := zOf_made b l hwl
  have hz2 := zOf_made c m hwm
  have hws := wf_trim hwl
  have hwt := wf_trim hwm
  have hts := trim_idem l
  have htt := trim_idem m
  have hls := len_trim l
  have hlt := len_trim m
  rw [← hz1, ← hz2]
  refine Ct_intro Try.func49 rfl rfl rfl rfl rfl (fun E hn hb => ?_)
  repeat (first | refine W_seq ?_ | refine W_region ?_ | refine W_block ?_ | refine W_skip ?_ | refine W_ret ?_ | refine W_exit ?_ | refine WL_nil ?_ | refine N_then ?_ | refine N_then_exit ?_ | refine N_then_ret ?_ | refine N_block ?_ | refine N_block_ret ?_ | refine N_block_exit ?_ | refine N_block_pass rfl ?_ | refine sp true rfl rfl (by rw [hn]; rfl) (by first | trivial | (simp; done) | (simp; omega) | (simp at *; done) | (simp at *; omega)) ?_ | refine sg true rfl rfl rfl (by rw [hn]; rfl) (by intro hG; first | trivial | (simp; done) | (simp; omega) | (simp at *; done) | (simp at *; omega)) ?_)
  refine s_boxN rfl rfl rfl (by rw [hn]; rfl) rfl (by first | trivial | (simp; done) | (simp; omega) | (simp at *; done) | (simp at *; omega)) rfl rfl ?_
  refine s_boxN rfl rfl rfl (by rw [hn]; rfl) rfl (by first | trivial | (simp; done) | (simp; omega) | (simp at *; done) | (simp at *; omega)) rfl rfl ?_
  refine s_allocN rfl rfl rfl (by rw [hn]; rfl) rfl zok30 ?_
  repeat (first | refine W_seq ?_ | refine W_region ?_ | refine W_block ?_ | refine W_skip ?_ | refine W_ret ?_ | refine W_exit ?_ | refine WL_nil ?_ | refine N_then ?_ | refine N_then_exit ?_ | refine N_then_ret ?_ | refine N_block ?_ | refine N_block_ret ?_ | refine N_block_exit ?_ | refine N_block_pass rfl ?_ | refine sp true rfl rfl (by rw [hn]; rfl) (by first | trivial | (simp; done) | (simp; omega) | (simp at *; done) | (simp at *; omega)) ?_ | refine sg true rfl rfl rfl (by rw [hn]; rfl) (by intro hG; first | trivial | (simp; done) | (simp; omega) | (simp at *; done) | (simp at *; omega)) ?_)
  refine W_drawW 10 (by kernel_rfl) (by kernel_rfl) (by kernel_rfl) (by rw [hn]; rfl) rfl rfl ?_
  repeat (first | refine DrawW_cons rfl (ops_pure true rfl rfl (by first | trivial | (simp; done) | (simp; omega) | (simp at *; done) | (simp at *; omega))) ?_ | refine DrawW_cons rfl (ops_pureG true rfl rfl rfl (by intro hG; first | trivial | (simp; done) | (simp; omega) | (simp at *; done) | (simp at *; omega))) ?_ | refine DrawW_nil ?_)
  refine DrawW_cons rfl (ops_of (opys_call (made_ok b l (by omega)) rfl rfl rfl (by first | trivial | (simp; done) | (simp; omega) | (simp at *; done) | (simp at *; omega)) rfl rfl rfl) rfl) ?_
  repeat (first | refine DrawW_cons rfl (ops_pure true rfl rfl (by first | trivial | (simp; done) | (simp; omega) | (simp at *; done) | (simp at *; omega))) ?_ | refine DrawW_cons rfl (ops_pureG true rfl rfl rfl (by intro hG; first | trivial | (simp; done) | (simp; omega) | (simp at *; done) | (simp at *; omega))) ?_ | refine DrawW_nil ?_)
  refine DrawW_cons rfl (ops_of (opys_call (made_ok c m (by omega)) rfl rfl rfl (by first | trivial | (simp; done) | (simp; omega) | (simp at *; done) | (simp at *; omega)) rfl rfl rfl) rfl) ?_
  repeat (first | refine DrawW_cons rfl (ops_pure true rfl rfl (by first | trivial | (simp; done) | (simp; omega) | (simp at *; done) | (simp at *; omega))) ?_ | refine DrawW_cons rfl (ops_pureG true rfl rfl rfl (by intro hG; first | trivial | (simp; done) | (simp; omega) | (simp at *; done) | (simp at *; omega))) ?_ | refine DrawW_nil ?_)
  refine s_storeN rfl rfl rfl rfl rfl (by first | trivial | (simp; done) | (simp; omega) | (simp at *; done) | (simp at *; omega)) rfl rfl rfl (by rw [cellsOf30]; rfl) (by rw [info30]; rfl) rfl rfl ?_
  refine s_storeN rfl rfl rfl rfl rfl (by first | trivial | (simp; done) | (simp; omega) | (simp at *; done) | (simp at *; omega)) rfl rfl rfl (by rw [cellsOf30]; rfl) (by rw [info30]; rfl) rfl rfl ?_
  repeat (first | refine W_seq ?_ | refine W_region ?_ | refine W_block ?_ | refine W_skip ?_ | refine W_ret ?_ | refine W_exit ?_ | refine WL_nil ?_ | refine N_then ?_ | refine N_then_exit ?_ | refine N_then_ret ?_ | refine N_block ?_ | refine N_block_ret ?_ | refine N_block_exit ?_ | refine N_block_pass rfl ?_ | refine sp true rfl rfl (by rw [hn]; rfl) (by first | trivial | (simp; done) | (simp; omega) | (simp at *; done) | (simp at *; omega)) ?_ | refine sg true rfl rfl rfl (by rw [hn]; rfl) (by intro hG; first | trivial | (simp; done) | (simp; omega) | (simp at *; done) | (simp at *; omega)) ?_)
  generalize madeB b l = be at *
  generalize madeB c m = ce at *
  generalize trimL l = s at *
  generalize trimL m = t at *
  clear hz1 hz2
  have hn1 := val_nonneg s 0 (by decide) hws
  have hn2 := val_nonneg t 0 (by decide) hwt
  refine W_cond rfl (by simp) (fun hq => ?_) (fun hq => ?_)
  · have hbc : ce = be := by cases be <;> cases ce <;> simp at hq ⊢
    subst hbc
    have hpl := plus_len s t
    have hmp := madeZ_ok ce (plusL s t) (by omega) (plus_wf s t)
    have e : zOf ce (plusL s t) = zOf ce s + zOf ce t := by
      have := plus_val s t hws hwt
      cases ce <;> simp only [zOf, cond_true, cond_false] <;> omega
    rw [e] at hmp
    repeat (first | refine W_seq ?_ | refine W_region ?_ | refine W_block ?_ | refine W_skip ?_ | refine W_ret ?_ | refine W_exit ?_ | refine WL_nil ?_ | refine N_then ?_ | refine N_then_exit ?_ | refine N_then_ret ?_ | refine N_block ?_ | refine N_block_ret ?_ | refine N_block_exit ?_ | refine N_block_pass rfl ?_ | refine sp true rfl rfl (by rw [hn]; rfl) (by first | trivial | (simp; done) | (simp; omega) | (simp at *; done) | (simp at *; omega)) ?_ | refine sg true rfl rfl rfl (by rw [hn]; rfl) (by intro hG; first | trivial | (simp; done) | (simp; omega) | (simp at *; done) | (simp at *; omega)) ?_)
    refine W_drawW 8 (by kernel_rfl) (by kernel_rfl) (by kernel_rfl) (by rw [hn]; rfl) rfl rfl ?_
    repeat (first | refine DrawW_cons rfl (ops_pure true rfl rfl (by first | trivial | (simp; done) | (simp; omega) | (simp at *; done) | (simp at *; omega))) ?_ | refine DrawW_cons rfl (ops_pureG true rfl rfl rfl (by intro hG; first | trivial | (simp; done) | (simp; omega) | (simp at *; done) | (simp at *; omega))) ?_ | refine DrawW_nil ?_)
    refine DrawW_cons rfl (ops_of (opys_call (plus_ok s t (by omega) (by omega) hws hwt) rfl rfl rfl (by first | trivial | (simp; done) | (simp; omega) | (simp at *; done) | (simp at *; omega)) rfl rfl rfl) rfl) ?_
    repeat (first | refine DrawW_cons rfl (ops_pure true rfl rfl (by first | trivial | (simp; done) | (simp; omega) | (simp at *; done) | (simp at *; omega))) ?_ | refine DrawW_cons rfl (ops_pureG true rfl rfl rfl (by intro hG; first | trivial | (simp; done) | (simp; omega) | (simp at *; done) | (simp at *; omega))) ?_ | refine DrawW_nil ?_)
    refine DrawW_cons rfl (ops_of (opys_call (hmp) rfl rfl rfl (by first | trivial | (simp; done) | (simp; omega) | (simp at *; done) | (simp at *; omega)) rfl rfl rfl) rfl) ?_
    repeat (first | refine DrawW_cons rfl (ops_pure true rfl rfl (by first | trivial | (simp; done) | (simp; omega) | (simp at *; done) | (simp at *; omega))) ?_ | refine DrawW_cons rfl (ops_pureG true rfl rfl rfl (by intro hG; first | trivial | (simp; done) | (simp; omega) | (simp at *; done) | (simp at *; omega))) ?_ | refine DrawW_nil ?_)
    refine s_storeN rfl rfl rfl rfl rfl (by first | trivial | (simp; done) | (simp; omega) | (simp at *; done) | (simp at *; omega)) rfl rfl rfl (by rw [cellsOf30]; rfl) (by rw [info30]; rfl) rfl rfl ?_
    repeat (first | refine W_seq ?_ | refine W_region ?_ | refine W_block ?_ | refine W_skip ?_ | refine W_ret ?_ | refine W_exit ?_ | refine WL_nil ?_ | refine N_then ?_ | refine N_then_exit ?_ | refine N_then_ret ?_ | refine N_block ?_ | refine N_block_ret ?_ | refine N_block_exit ?_ | refine N_block_pass rfl ?_ | refine sp true rfl rfl (by rw [hn]; rfl) (by first | trivial | (simp; done) | (simp; omega) | (simp at *; done) | (simp at *; omega)) ?_ | refine sg true rfl rfl rfl (by rw [hn]; rfl) (by intro hG; first | trivial | (simp; done) | (simp; omega) | (simp at *; done) | (simp at *; omega)) ?_)
    exact N_retN [] rfl (by first | trivial | (simp; done) | (simp; omega) | (simp at *; done) | (simp at *; omega)) ⟨rfl, by first | trivial | exact ⟨rfl, rfl⟩, by first | trivial | exact rfl | exact ⟨rfl, rfl⟩, rfl⟩ hb rfl (by first | trivial | (simp; done))
  · have hbc : ce = !be := by cases be <;> cases ce <;> simp at hq ⊢
    subst hbc
    have hsz := sizes_ok s t (by omega) (by omega)
    have hsv := sizes_val s t hws hwt hts htt
    have hsl : 0 ≤ sizesL s t → t.length ≤ s.length := by
      intro h
      rcases Nat.lt_or_ge s.length t.length with h1 | h1
      · have := val_len h1 hws hwt htt
        rw [hsv, cmpI, if_pos this] at h
        omega
      · exact h1
    have hsl2 : ¬ 0 ≤ sizesL s t → s.length ≤ t.length ∧ valA 0 s ≤ valA 0 t := by
      intro h
      have hlt : valA 0 s < valA 0 t := by
        rw [hsv, cmpI] at h
        by_cases h1 : valA 0 s < valA 0 t
        · exact h1
        · rw [if_neg h1] at h
          split at h <;> omega
      refine ⟨?_, by omega⟩
      rcases Nat.lt_or_ge t.length s.length with h1 | h1
      · have := val_len h1 hwt hws hts
        omega
      · exact h1
    have hsl3 : 0 ≤ sizesL s t → valA 0 t ≤ valA 0 s := by
      intro h
      by_cases h1 : valA 0 s < valA 0 t
      · rw [hsv, cmpI, if_pos h1] at h; omega
      · omega
    generalize sizesL s t = r at *
    clear hsv
    repeat (first | refine W_seq ?_ | refine W_region ?_ | refine W_block ?_ | refine W_skip ?_ | refine W_ret ?_ | refine W_exit ?_ | refine WL_nil ?_ | refine N_then ?_ | refine N_then_exit ?_ | refine N_then_ret ?_ | refine N_block ?_ | refine N_block_ret ?_ | refine N_block_exit ?_ | refine N_block_pass rfl ?_ | refine sp true rfl rfl (by rw [hn]; rfl) (by first | trivial | (simp; done) | (simp; omega) | (simp at *; done) | (simp at *; omega)) ?_ | refine sg true rfl rfl rfl (by rw [hn]; rfl) (by intro hG; first | trivial | (simp; done) | (simp; omega) | (simp at *; done) | (simp at *; omega)) ?_)
    refine s_call0 (hsz) rfl rfl rfl (by rw [hn]; rfl) rfl rfl (by first | trivial | (simp; done) | (simp; omega) | (simp at *; done) | (simp at *; omega)) rfl rfl rfl ?_
    repeat (first | refine W_seq ?_ | refine W_region ?_ | refine W_block ?_ | refine W_skip ?_ | refine W_ret ?_ | refine W_exit ?_ | refine WL_nil ?_ | refine N_then ?_ | refine N_then_exit ?_ | refine N_then_ret ?_ | refine N_block ?_ | refine N_block_ret ?_ | refine N_block_exit ?_ | refine N_block_pass rfl ?_ | refine sp true rfl rfl (by rw [hn]; rfl) (by first | trivial | (simp; done) | (simp; omega) | (simp at *; done) | (simp at *; omega)) ?_ | refine sg true rfl rfl rfl (by rw [hn]; rfl) (by intro hG; first | trivial | (simp; done) | (simp; omega) | (simp at *; done) | (simp at *; omega)) ?_)
    refine W_cond rfl (by simp) (fun hr => ?_) (fun hr => ?_)
    · have h0 : 0 ≤ r := by simpa using hr
      have hml := minus_len s t (hsl h0)
      have hmp := madeZ_ok be (minusL s t) (by omega) (minus_wf s t)
      have e : zOf be (minusL s t) = zOf be s + zOf (!be) t := by
        have := minus_val s t hws hwt (hsl h0) (hsl3 h0)
        cases be <;> simp only [zOf, cond_true, cond_false, Bool.not_true, Bool.not_false] <;> omega
      rw [e] at hmp
      repeat (first | refine W_seq ?_ | refine W_region ?_ | refine W_block ?_ | refine W_skip ?_ | refine W_ret ?_ | refine W_exit ?_ | refine WL_nil ?_ | refine N_then ?_ | refine N_then_exit ?_ | refine N_then_ret ?_ | refine N_block ?_ | refine N_block_ret ?_ | refine N_block_exit ?_ | refine N_block_pass rfl ?_ | refine sp true rfl rfl (by rw [hn]; rfl) (by first | trivial | (simp; done) | (simp; omega) | (simp at *; done) | (simp at *; omega)) ?_ | refine sg true rfl rfl rfl (by rw [hn]; rfl) (by intro hG; first | trivial | (simp; done) | (simp; omega) | (simp at *; done) | (simp at *; omega)) ?_)
      refine W_drawW 8 (by kernel_rfl) (by kernel_rfl) (by kernel_rfl) (by rw [hn]; rfl) rfl rfl ?_
      repeat (first | refine DrawW_cons rfl (ops_pure true rfl rfl (by first | trivial | (simp; done) | (simp; omega) | (simp at *; done) | (simp at *; omega))) ?_ | refine DrawW_cons rfl (ops_pureG true rfl rfl rfl (by intro hG; first | trivial | (simp; done) | (simp; omega) | (simp at *; done) | (simp at *; omega))) ?_ | refine DrawW_nil ?_)
      refine DrawW_cons rfl (ops_of (opys_call (minus_ok s t (by omega) (hsl h0) hws hwt) rfl rfl rfl (by first | trivial | (simp; done) | (simp; omega) | (simp at *; done) | (simp at *; omega)) rfl rfl rfl) rfl) ?_
      repeat (first | refine DrawW_cons rfl (ops_pure true rfl rfl (by first | trivial | (simp; done) | (simp; omega) | (simp at *; done) | (simp at *; omega))) ?_ | refine DrawW_cons rfl (ops_pureG true rfl rfl rfl (by intro hG; first | trivial | (simp; done) | (simp; omega) | (simp at *; done) | (simp at *; omega))) ?_ | refine DrawW_nil ?_)
      refine DrawW_cons rfl (ops_of (opys_call (hmp) rfl rfl rfl (by first | trivial | (simp; done) | (simp; omega) | (simp at *; done) | (simp at *; omega)) rfl rfl rfl) rfl) ?_
      repeat (first | refine DrawW_cons rfl (ops_pure true rfl rfl (by first | trivial | (simp; done) | (simp; omega) | (simp at *; done) | (simp at *; omega))) ?_ | refine DrawW_cons rfl (ops_pureG true rfl rfl rfl (by intro hG; first | trivial | (simp; done) | (simp; omega) | (simp at *; done) | (simp at *; omega))) ?_ | refine DrawW_nil ?_)
      refine s_storeN rfl rfl rfl rfl rfl (by first | trivial | (simp; done) | (simp; omega) | (simp at *; done) | (simp at *; omega)) rfl rfl rfl (by rw [cellsOf30]; rfl) (by rw [info30]; rfl) rfl rfl ?_
      repeat (first | refine W_seq ?_ | refine W_region ?_ | refine W_block ?_ | refine W_skip ?_ | refine W_ret ?_ | refine W_exit ?_ | refine WL_nil ?_ | refine N_then ?_ | refine N_then_exit ?_ | refine N_then_ret ?_ | refine N_block ?_ | refine N_block_ret ?_ | refine N_block_exit ?_ | refine N_block_pass rfl ?_ | refine sp true rfl rfl (by rw [hn]; rfl) (by first | trivial | (simp; done) | (simp; omega) | (simp at *; done) | (simp at *; omega)) ?_ | refine sg true rfl rfl rfl (by rw [hn]; rfl) (by intro hG; first | trivial | (simp; done) | (simp; omega) | (simp at *; done) | (simp at *; omega)) ?_)
      exact N_retN [] rfl (by first | trivial | (simp; done) | (simp; omega) | (simp at *; done) | (simp at *; omega)) ⟨rfl, by first | trivial | exact ⟨rfl, rfl⟩, by first | trivial | exact rfl | exact ⟨rfl, rfl⟩, rfl⟩ hb rfl (by first | trivial | (simp; done))
    · have h0 : ¬ 0 ≤ r := by simpa using hr
      obtain ⟨h1, h2⟩ := hsl2 h0
      have hml := minus_len t s h1
      have hmp := madeZ_ok (!be) (minusL t s) (by omega) (minus_wf t s)
      have e : zOf (!be) (minusL t s) = zOf be s + zOf (!be) t := by
        have := minus_val t s hwt hws h1 h2
        cases be <;> simp only [zOf, cond_true, cond_false, Bool.not_true, Bool.not_false] <;> omega
      rw [e] at hmp
      repeat (first | refine W_seq ?_ | refine W_region ?_ | refine W_block ?_ | refine W_skip ?_ | refine W_ret ?_ | refine W_exit ?_ | refine WL_nil ?_ | refine N_then ?_ | refine N_then_exit ?_ | refine N_then_ret ?_ | refine N_block ?_ | refine N_block_ret ?_ | refine N_block_exit ?_ | refine N_block_pass rfl ?_ | refine sp true rfl rfl (by rw [hn]; rfl) (by first | trivial | (simp; done) | (simp; omega) | (simp at *; done) | (simp at *; omega)) ?_ | refine sg true rfl rfl rfl (by rw [hn]; rfl) (by intro hG; first | trivial | (simp; done) | (simp; omega) | (simp at *; done) | (simp at *; omega)) ?_)
      refine W_drawW 8 (by kernel_rfl) (by kernel_rfl) (by kernel_rfl) (by rw [hn]; rfl) rfl rfl ?_
      repeat (first | refine DrawW_cons rfl (ops_pure true rfl rfl (by first | trivial | (simp; done) | (simp; omega) | (simp at *; done) | (simp at *; omega))) ?_ | refine DrawW_cons rfl (ops_pureG true rfl rfl rfl (by intro hG; first | trivial | (simp; done) | (simp; omega) | (simp at *; done) | (simp at *; omega))) ?_ | refine DrawW_nil ?_)
      refine DrawW_cons rfl (ops_of (opys_call (minus_ok t s (by omega) h1 hwt hws) rfl rfl rfl (by first | trivial | (simp; done) | (simp; omega) | (simp at *; done) | (simp at *; omega)) rfl rfl rfl) rfl) ?_
      repeat (first | refine DrawW_cons rfl (ops_pure true rfl rfl (by first | trivial | (simp; done) | (simp; omega) | (simp at *; done) | (simp at *; omega))) ?_ | refine DrawW_cons rfl (ops_pureG true rfl rfl rfl (by intro hG; first | trivial | (simp; done) | (simp; omega) | (simp at *; done) | (simp at *; omega))) ?_ | refine DrawW_nil ?_)
      refine DrawW_cons rfl (ops_of (opys_call (hmp) rfl rfl rfl (by first | trivial | (simp; done) | (simp; omega) | (simp at *; done) | (simp at *; omega)) rfl rfl rfl) rfl) ?_
      repeat (first | refine DrawW_cons rfl (ops_pure true rfl rfl (by first | trivial | (simp; done) | (simp; omega) | (simp at *; done) | (simp at *; omega))) ?_ | refine DrawW_cons rfl (ops_pureG true rfl rfl rfl (by intro hG; first | trivial | (simp; done) | (simp; omega) | (simp at *; done) | (simp at *; omega))) ?_ | refine DrawW_nil ?_)
      refine s_storeN rfl rfl rfl rfl rfl (by first | trivial | (simp; done) | (simp; omega) | (simp at *; done) | (simp at *; omega)) rfl rfl rfl (by rw [cellsOf30]; rfl) (by rw [info30]; rfl) rfl rfl ?_
      repeat (first | refine W_seq ?_ | refine W_region ?_ | refine W_block ?_ | refine W_skip ?_ | refine W_ret ?_ | refine W_exit ?_ | refine WL_nil ?_ | refine N_then ?_ | refine N_then_exit ?_ | refine N_then_ret ?_ | refine N_block ?_ | refine N_block_ret ?_ | refine N_block_exit ?_ | refine N_block_pass rfl ?_ | refine sp true rfl rfl (by rw [hn]; rfl) (by first | trivial | (simp; done) | (simp; omega) | (simp at *; done) | (simp at *; omega)) ?_ | refine sg true rfl rfl rfl (by rw [hn]; rfl) (by intro hG; first | trivial | (simp; done) | (simp; omega) | (simp at *; done) | (simp at *; omega)) ?_)
      exact N_retN [] rfl (by first | trivial | (simp; done) | (simp; omega) | (simp at *; done) | (simp at *; omega)) ⟨rfl, by first | trivial | exact ⟨rfl, rfl⟩, by first | trivial | exact rfl | exact ⟨rfl, rfl⟩, rfl⟩ hb rfl (by first | trivial | (simp; done))
end Go.Proofs.Ytppmfjopokkhmaa

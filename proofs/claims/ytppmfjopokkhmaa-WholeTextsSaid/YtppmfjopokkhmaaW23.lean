/-
  Chapter 03's law of texts, walked: it returns true. The conditions: rows that a machine can hold.
-/
import Derived.Test.YtppmfjopokkhmaaW22
namespace Go.Proofs.Ytppmfjopokkhmaa
set_option linter.unusedSimpArgs false
set_option linter.unusedVariables false
open Go.Sx

set_option maxRecDepth 10000

theorem dig_of_val (s : List Int) (hw : WfB s) (ht : trimL s = s) : digL (valA 0 s).toNat = s := by
  have h0 := val_nonneg s 0 (by decide) hw
  exact (dig_eq s (valA 0 s).toNat hw ht (by omega)).symm
theorem text_wf (be : Bool) (s : List Int) : WfB (textL be s) := by
  intro x hx
  rcases List.mem_append.1 hx with h | h
  · cases be <;> simp at h
    subst h; omega
  · split at h
    · simp at h; subst h; omega
    · have h := List.mem_reverse.1 h
      rw [decL_D _ _ (Nat.le_refl _)] at h
      obtain ⟨y, hy, rfl⟩ := List.mem_map.1 h
      have := decD_wf _ _ (Nat.le_refl _) y hy
      omega
theorem text_len (be : Bool) (s : List Int) (hw : WfB s) : (textL be s).length ≤ 3 * s.length + 2 := by
  have := dec_len s hw
  unfold textL
  rw [List.length_append]
  have h1 : (cond be [45] ([] : List Int)).length ≤ 1 := by cases be <;> simp
  split
  · simp; omega
  · simp at this ⊢; omega
theorem p160 (n a b : Nat) (h1 : 256 ^ a < 10 ^ b) (h : n < 256 ^ (a + a)) : n < 10 ^ (b + b) := by
  rw [Nat.pow_add] at h ⊢
  exact Nat.lt_trans h (Nat.mul_lt_mul'' h1 h1)
theorem dec_len160 (s : List Int) (hw : WfB s) (hl : s.length ≤ 160) : (decL (valA 0 s).toNat).length ≤ 193 + 193 := by
  have h := val_lt s 160 hl hw
  have h0 := val_nonneg s 0 (by decide) hw
  have h2 : (((256 : Nat) ^ (80 + 80) : Nat) : Int) = 256 ^ 160 := by rw [Int.natCast_pow]; rfl
  exact decL_len (193 + 193) _ (p160 _ 80 193 (by decide) (by omega))

/-- What was written is read as it was. -/
theorem from_text (be : Bool) (s : List Int) (hw : WfB s) (ht : trimL s = s) (hb : be = true → s ≠ []) (hl : s.length ≤ 160) : fromN (textL be s) = (be, s, 0) := by
  have hd := dig_of_val s hw ht
  have h386 := dec_len160 s hw hl
  have hbody : ∃ D, textL be s = cond be [45] [] ++ D ∧ D.all isDig = true ∧ D ≠ [] ∧ D.length ≤ 193 + 193 ∧ decV D = (valA 0 s).toNat ∧ ((D.getD 0 0 = 48 → s = []) ∧ D.getD 0 0 ≠ 45) ∧ (s = [] → D = [48]) := by
    by_cases hs : s = []
    · subst hs
      exact ⟨[48], rfl, by decide, by simp, by decide, rfl, ⟨fun _ => rfl, by decide⟩, fun _ => rfl⟩
    · have hv : (valA 0 s).toNat ≠ 0 := by
        intro h
        rw [h, dig_zero] at hd
        exact hs hd.symm
      obtain ⟨a, x, e, hx⟩ := decL_last _ _ (Nat.le_refl _) hv
      refine ⟨(decL (valA 0 s).toNat).reverse, by rw [textL, if_neg hs], by rw [List.all_reverse]; exact decL_isDig _ _ (Nat.le_refl _), ?_, by rw [List.length_reverse]; exact h386, decV_decL _ _ (Nat.le_refl _), ?_, fun h => absurd h hs⟩
      · rw [e]; simp
      · rw [e]
        simp
        omega
  obtain ⟨D, e1, e2, e3, e4, e5, ⟨e6, e6'⟩, e7⟩ := hbody
  have hneg : negB (textL be s) = be := by
    rw [e1, negB]
    cases be with
    | true => simp
    | false =>
      simp only [cond_false, List.nil_append]
      have : (D.getD 0 0 == 45) = false := by simpa using e6'
      rw [this]; simp
  have hbod : bodyL (textL be s) = D := by
    rw [bodyL, hneg, e1]
    cases be <;> rfl
  have hbad : badB (textL be s) = false := by
    rw [badB, hbod, hneg]
    have h3 : decide (D = []) = false := by simpa using e3
    rw [h3]
    by_cases h48 : D.getD 0 0 = 48
    · have hs := e6 h48
      have hD := e7 hs
      subst hD
      cases be with
      | true => exact absurd hs (hb rfl)
      | false => rfl
    · have : (D.getD 0 0 == 48) = false := by simpa using h48
      rw [this]; rfl
  rw [fromN, hbad, hbod, hneg, e2, e5, hd]
  have h4 : ¬ (400 : Int) < D.length := by omega
  have hmb : madeB be s = be := by
    rw [madeB, ht]
    cases be with
    | false => rfl
    | true =>
      have := List.length_pos_iff.2 (hb rfl)
      simp only [cond_true, decide_eq_true_eq]; omega
  rw [if_neg (by simp), if_neg (by simp), if_neg h4, hmb]

/-- What was read is written as it was. -/
theorem text_from (l : List Int) (h0 : (fromN l).2.2 = 0) : textL (madeB (fromN l).1 (fromN l).2.1) (trimL (fromN l).2.1) = l := by
  have hl : l = cond (negB l) [45] [] ++ bodyL l := by
    unfold bodyL
    cases hn : negB l with
    | false => rfl
    | true =>
      cases l with
      | nil => simp [negB] at hn
      | cons x t =>
        simp [negB] at hn
        simp [hn]
  unfold fromN at h0 ⊢
  split at h0
  · cases h0
  rename_i hbad
  split at h0
  · cases h0
  rename_i hall
  split at h0
  · cases h0
  rename_i h400
  rw [if_neg hbad, if_neg hall, if_neg h400]
  dsimp only
  have hall' : (bodyL l).all isDig = true := by simpa using hall
  generalize hD : bodyL l = D at *
  generalize hN : negB l = ng at *
  have hbad' : ¬ badB l = true := hbad
  rw [badB, hD, hN] at hbad'
  rw [dig_trim]
  have hmm : madeB (madeB ng (digL (decV D))) (digL (decV D)) = madeB ng (digL (decV D)) := by
    have := made_idem ng (digL (decV D))
    rwa [dig_trim] at this
  rw [hmm]
  obtain ⟨d1, d2, d3⟩ := dig_spec (decV D) (decV D) (Nat.le_refl _)
  cases D with
  | nil => simp at hbad'
  | cons x t =>
    by_cases hx : x = 48
    · subst hx
      cases t with
      | nil =>
        have hng : ng = false := by cases ng <;> simp at hbad' ⊢
        subst hng
        have e0 : decV [48] = 0 := rfl
        rw [e0, dig_zero, hl]
        rfl
      | cons y t =>
        simp at hbad'
        omega
    · have hdl := decL_decV (x :: t).length (x :: t) (Nat.le_refl _) hall' (fun y u e => by cases e; exact hx)
      have hv : decV (x :: t) ≠ 0 := by
        intro h
        rw [h, decL_zero] at hdl
        simp at hdl
      have hne : digL (decV (x :: t)) ≠ [] := by
        intro h
        rw [h] at d3
        simp [valA] at d3
        omega
      have hmb : madeB ng (digL (decV (x :: t))) = ng := by
        rw [madeB, dig_trim]
        cases ng with
        | false => rfl
        | true =>
          have := List.length_pos_iff.2 hne
          simp only [cond_true, decide_eq_true_eq]; omega
      rw [hmb, textL, if_neg hne, d3, Int.toNat_natCast, hdl, List.reverse_reverse, ← hl]
theorem from_wf (l : List Int) : WfB (fromN l).2.1 ∧ ((fromN l).2.1).length ≤ 400 := by
  unfold fromN
  split
  · exact ⟨fun x hx => (by cases hx), by simp⟩
  · split
    · exact ⟨fun x hx => (by cases hx), by simp⟩
    · rename_i hall
      split
      · exact ⟨fun x hx => (by cases hx), by simp⟩
      · rename_i h4
        have hall' : (bodyL l).all isDig = true := by simpa using hall
        have := dig_len10 _ _ (decV_lt _ hall')
        exact ⟨(dig_spec _ _ (Nat.le_refl _)).1, by dsimp only; omega⟩

theorem texts_ok (b0 : Bool) (l0 : List Int) (t0 : ByteArray) (hl0 : l0.length ≤ 9223372036854775807) (ht0 : t0.size ≤ 9223372036854775807) (hwl0 : WfB l0) : Ct Try.prog 5 [numA b0 l0, lv (.string t0)] [] (lv (.bool true)) [] [] := by
  obtain ⟨m0, rfl, hwm0, hm0⟩ := str_of t0
  rw [← hm0] at ht0
  have hl : (l0.take (min (l0.length : Int) 160).toNat).length ≤ 160 := by simp; omega
  have hwl := wf_take hwl0 (min (l0.length : Int) 160).toNat
  have hm : (m0.take (min (m0.length : Int) 500).toNat).length ≤ 500 := by simp; omega
  have hwm := wf_take hwm0 (min (m0.length : Int) 500).toNat
  have hex : (strOfNums m0).extract 0 (min (m0.length : Int) 500).toNat = strOfNums (m0.take (min (m0.length : Int) 500).toNat) := by
    rw [ext_str, List.drop_zero]
  refine Ct_intro Try.func5 rfl rfl rfl rfl rfl (fun E hn hb => ?_)
  repeat (first | refine W_seq ?_ | refine W_region ?_ | refine W_block ?_ | refine W_skip ?_ | refine W_ret ?_ | refine W_exit ?_ | refine WL_nil ?_ | refine N_then ?_ | refine N_then_exit ?_ | refine N_then_ret ?_ | refine N_block ?_ | refine N_block_ret ?_ | refine N_block_exit ?_ | refine N_block_pass rfl ?_ | refine sp true rfl rfl (by rw [hn]; rfl) (by first | trivial | (simp; done) | (simp; omega) | (simp at *; done) | (simp at *; omega)) ?_ | refine sg true rfl rfl rfl (by rw [hn]; rfl) (by intro hG; first | trivial | (simp; done) | (simp; omega) | (simp at *; done) | (simp at *; omega)) ?_)
  refine s_boxN rfl rfl rfl (by rw [hn]; rfl) rfl (by first | trivial | (simp; done) | (simp; omega) | (simp at *; done) | (simp at *; omega)) rfl rfl ?_
  repeat (first | refine W_seq ?_ | refine W_region ?_ | refine W_block ?_ | refine W_skip ?_ | refine W_ret ?_ | refine W_exit ?_ | refine WL_nil ?_ | refine N_then ?_ | refine N_then_exit ?_ | refine N_then_ret ?_ | refine N_block ?_ | refine N_block_ret ?_ | refine N_block_exit ?_ | refine N_block_pass rfl ?_ | refine sp true rfl rfl (by rw [hn]; rfl) (by first | trivial | (simp; done) | (simp; omega) | (simp at *; done) | (simp at *; omega)) ?_ | refine sg true rfl rfl rfl (by rw [hn]; rfl) (by intro hG; first | trivial | (simp; done) | (simp; omega) | (simp at *; done) | (simp at *; omega)) ?_)
  simp only [Bool.false_eq_true, if_false]
  refine s_storeN rfl rfl rfl rfl rfl (by first | trivial | (simp; done) | (simp; omega) | (simp at *; done) | (simp at *; omega)) rfl rfl rfl (by rw [cellsOf22]; rfl) (by rw [info22]; rfl) rfl rfl ?_
  repeat (first | refine W_seq ?_ | refine W_region ?_ | refine W_block ?_ | refine W_skip ?_ | refine W_ret ?_ | refine W_exit ?_ | refine WL_nil ?_ | refine N_then ?_ | refine N_then_exit ?_ | refine N_then_ret ?_ | refine N_block ?_ | refine N_block_ret ?_ | refine N_block_exit ?_ | refine N_block_pass rfl ?_ | refine sp true rfl rfl (by rw [hn]; rfl) (by first | trivial | (simp; done) | (simp; omega) | (simp at *; done) | (simp at *; omega)) ?_ | refine sg true rfl rfl rfl (by rw [hn]; rfl) (by intro hG; first | trivial | (simp; done) | (simp; omega) | (simp at *; done) | (simp at *; omega)) ?_)
  simp only [Bool.false_eq_true, if_false]
  rw [size_str, hex]
  generalize l0.take (min (l0.length : Int) 160).toNat = l at *
  generalize m0.take (min (m0.length : Int) 500).toNat = m at *
  have hlt := len_trim l
  have htw := wf_trim hwl
  have htt := trim_idem l
  have hmd := @madeB_ne b0 l
  have hft := from_text (madeB b0 l) (trimL l) htw htt hmd (by omega)
  have hmi := made_idem b0 l
  have htl := text_len (madeB b0 l) (trimL l) htw
  have htxw := text_wf (madeB b0 l) (trimL l)
  have hx1 := text_ok b0 l (by omega) hwl
  have hx2 := fromtext_ok (textL (madeB b0 l) (trimL l)) (by omega) htxw
  rw [hft] at hx2
  have hx3 := fromtext_ok m (by omega) hwm
  have hx4 := reffromtext_ok m (by omega) hwm
  have hx5 := reftext_ok b0 l (by omega) hwl
  have hx6 := refsame_ok (madeB b0 l) b0 (trimL l) l (by omega) (by omega)
  rw [hmi, htt] at hx6
  have hx7 := of_ok (madeB b0 l) (trimL l)
  obtain ⟨hfw, hfl⟩ := from_wf m
  have htf := text_from m
  have hx8 := text_ok (fromN m).1 (fromN m).2.1 (by omega) hfw
  generalize fromN m = p at *
  obtain ⟨pb, ps, pe⟩ := p
  dsimp only at *
  generalize madeB b0 l = be at *
  generalize trimL l = s at *
  repeat (first | refine W_seq ?_ | refine W_region ?_ | refine W_block ?_ | refine W_skip ?_ | refine W_ret ?_ | refine W_exit ?_ | refine WL_nil ?_ | refine N_then ?_ | refine N_then_exit ?_ | refine N_then_ret ?_ | refine N_block ?_ | refine N_block_ret ?_ | refine N_block_exit ?_ | refine N_block_pass rfl ?_ | refine sp true rfl rfl (by rw [hn]; rfl) (by first | trivial | (simp; done) | (simp; omega) | (simp at *; done) | (simp at *; omega)) ?_ | refine sg true rfl rfl rfl (by rw [hn]; rfl) (by intro hG; first | trivial | (simp; done) | (simp; omega) | (simp at *; done) | (simp at *; omega)) ?_)
  refine s_call0 (to_ok b0 l) rfl rfl rfl (by rw [hn]; rfl) rfl rfl (by first | trivial | (simp; done) | (simp; omega) | (simp at *; done) | (simp at *; omega)) rfl rfl rfl ?_
  refine s_call0 (hx1) rfl rfl rfl (by rw [hn]; rfl) rfl rfl (by first | trivial | (simp; done) | (simp; omega) | (simp at *; done) | (simp at *; omega)) rfl rfl rfl ?_
  repeat (first | refine W_seq ?_ | refine W_region ?_ | refine W_block ?_ | refine W_skip ?_ | refine W_ret ?_ | refine W_exit ?_ | refine WL_nil ?_ | refine N_then ?_ | refine N_then_exit ?_ | refine N_then_ret ?_ | refine N_block ?_ | refine N_block_ret ?_ | refine N_block_exit ?_ | refine N_block_pass rfl ?_ | refine sp true rfl rfl (by rw [hn]; rfl) (by first | trivial | (simp; done) | (simp; omega) | (simp at *; done) | (simp at *; omega)) ?_ | refine sg true rfl rfl rfl (by rw [hn]; rfl) (by intro hG; first | trivial | (simp; done) | (simp; omega) | (simp at *; done) | (simp at *; omega)) ?_)
  refine s_call0 (hx2) rfl rfl rfl (by rw [hn]; rfl) rfl rfl (by first | trivial | (simp; done) | (simp; omega) | (simp at *; done) | (simp at *; omega)) rfl rfl rfl ?_
  repeat (first | refine W_seq ?_ | refine W_region ?_ | refine W_block ?_ | refine W_skip ?_ | refine W_ret ?_ | refine W_exit ?_ | refine WL_nil ?_ | refine N_then ?_ | refine N_then_exit ?_ | refine N_then_ret ?_ | refine N_block ?_ | refine N_block_ret ?_ | refine N_block_exit ?_ | refine N_block_pass rfl ?_ | refine sp true rfl rfl (by rw [hn]; rfl) (by first | trivial | (simp; done) | (simp; omega) | (simp at *; done) | (simp at *; omega)) ?_ | refine sg true rfl rfl rfl (by rw [hn]; rfl) (by intro hG; first | trivial | (simp; done) | (simp; omega) | (simp at *; done) | (simp at *; omega)) ?_)
  refine s_allocN rfl rfl rfl (by rw [hn]; rfl) rfl zok30 ?_
  repeat (first | refine W_seq ?_ | refine W_region ?_ | refine W_block ?_ | refine W_skip ?_ | refine W_ret ?_ | refine W_exit ?_ | refine WL_nil ?_ | refine N_then ?_ | refine N_then_exit ?_ | refine N_then_ret ?_ | refine N_block ?_ | refine N_block_ret ?_ | refine N_block_exit ?_ | refine N_block_pass rfl ?_ | refine sp true rfl rfl (by rw [hn]; rfl) (by first | trivial | (simp; done) | (simp; omega) | (simp at *; done) | (simp at *; omega)) ?_ | refine sg true rfl rfl rfl (by rw [hn]; rfl) (by intro hG; first | trivial | (simp; done) | (simp; omega) | (simp at *; done) | (simp at *; omega)) ?_)
  refine s_storeN rfl rfl rfl rfl rfl (by first | trivial | (simp; done) | (simp; omega) | (simp at *; done) | (simp at *; omega)) rfl rfl rfl (by rw [cellsOf30]; rfl) (by rw [info30]; rfl) rfl rfl ?_
  repeat (first | refine W_seq ?_ | refine W_region ?_ | refine W_block ?_ | refine W_skip ?_ | refine W_ret ?_ | refine W_exit ?_ | refine WL_nil ?_ | refine N_then ?_ | refine N_then_exit ?_ | refine N_then_ret ?_ | refine N_block ?_ | refine N_block_ret ?_ | refine N_block_exit ?_ | refine N_block_pass rfl ?_ | refine sp true rfl rfl (by rw [hn]; rfl) (by first | trivial | (simp; done) | (simp; omega) | (simp at *; done) | (simp at *; omega)) ?_ | refine sg true rfl rfl rfl (by rw [hn]; rfl) (by intro hG; first | trivial | (simp; done) | (simp; omega) | (simp at *; done) | (simp at *; omega)) ?_)
  refine s_call0 (hx3) rfl rfl rfl (by rw [hn]; rfl) rfl rfl (by first | trivial | (simp; done) | (simp; omega) | (simp at *; done) | (simp at *; omega)) rfl rfl rfl ?_
  repeat (first | refine W_seq ?_ | refine W_region ?_ | refine W_block ?_ | refine W_skip ?_ | refine W_ret ?_ | refine W_exit ?_ | refine WL_nil ?_ | refine N_then ?_ | refine N_then_exit ?_ | refine N_then_ret ?_ | refine N_block ?_ | refine N_block_ret ?_ | refine N_block_exit ?_ | refine N_block_pass rfl ?_ | refine sp true rfl rfl (by rw [hn]; rfl) (by first | trivial | (simp; done) | (simp; omega) | (simp at *; done) | (simp at *; omega)) ?_ | refine sg true rfl rfl rfl (by rw [hn]; rfl) (by intro hG; first | trivial | (simp; done) | (simp; omega) | (simp at *; done) | (simp at *; omega)) ?_)
  refine s_allocN rfl rfl rfl (by rw [hn]; rfl) rfl zok30 ?_
  repeat (first | refine W_seq ?_ | refine W_region ?_ | refine W_block ?_ | refine W_skip ?_ | refine W_ret ?_ | refine W_exit ?_ | refine WL_nil ?_ | refine N_then ?_ | refine N_then_exit ?_ | refine N_then_ret ?_ | refine N_block ?_ | refine N_block_ret ?_ | refine N_block_exit ?_ | refine N_block_pass rfl ?_ | refine sp true rfl rfl (by rw [hn]; rfl) (by first | trivial | (simp; done) | (simp; omega) | (simp at *; done) | (simp at *; omega)) ?_ | refine sg true rfl rfl rfl (by rw [hn]; rfl) (by intro hG; first | trivial | (simp; done) | (simp; omega) | (simp at *; done) | (simp at *; omega)) ?_)
  refine s_storeN rfl rfl rfl rfl rfl (by first | trivial | (simp; done) | (simp; omega) | (simp at *; done) | (simp at *; omega)) rfl rfl rfl (by rw [cellsOf30]; rfl) (by rw [info30]; rfl) rfl rfl ?_
  repeat (first | refine W_seq ?_ | refine W_region ?_ | refine W_block ?_ | refine W_skip ?_ | refine W_ret ?_ | refine W_exit ?_ | refine WL_nil ?_ | refine N_then ?_ | refine N_then_exit ?_ | refine N_then_ret ?_ | refine N_block ?_ | refine N_block_ret ?_ | refine N_block_exit ?_ | refine N_block_pass rfl ?_ | refine sp true rfl rfl (by rw [hn]; rfl) (by first | trivial | (simp; done) | (simp; omega) | (simp at *; done) | (simp at *; omega)) ?_ | refine sg true rfl rfl rfl (by rw [hn]; rfl) (by intro hG; first | trivial | (simp; done) | (simp; omega) | (simp at *; done) | (simp at *; omega)) ?_)
  refine s_call0 (hx4) rfl rfl rfl (by rw [hn]; rfl) rfl rfl (by first | trivial | (simp; done) | (simp; omega) | (simp at *; done) | (simp at *; omega)) rfl rfl rfl ?_
  repeat (first | refine W_seq ?_ | refine W_region ?_ | refine W_block ?_ | refine W_skip ?_ | refine W_ret ?_ | refine W_exit ?_ | refine WL_nil ?_ | refine N_then ?_ | refine N_then_exit ?_ | refine N_then_ret ?_ | refine N_block ?_ | refine N_block_ret ?_ | refine N_block_exit ?_ | refine N_block_pass rfl ?_ | refine sp true rfl rfl (by rw [hn]; rfl) (by first | trivial | (simp; done) | (simp; omega) | (simp at *; done) | (simp at *; omega)) ?_ | refine sg true rfl rfl rfl (by rw [hn]; rfl) (by intro hG; first | trivial | (simp; done) | (simp; omega) | (simp at *; done) | (simp at *; omega)) ?_)
  refine s_allocN rfl rfl rfl (by rw [hn]; rfl) rfl zok24 ?_
  repeat (first | refine W_seq ?_ | refine W_region ?_ | refine W_block ?_ | refine W_skip ?_ | refine W_ret ?_ | refine W_exit ?_ | refine WL_nil ?_ | refine N_then ?_ | refine N_then_exit ?_ | refine N_then_ret ?_ | refine N_block ?_ | refine N_block_ret ?_ | refine N_block_exit ?_ | refine N_block_pass rfl ?_ | refine sp true rfl rfl (by rw [hn]; rfl) (by first | trivial | (simp; done) | (simp; omega) | (simp at *; done) | (simp at *; omega)) ?_ | refine sg true rfl rfl rfl (by rw [hn]; rfl) (by intro hG; first | trivial | (simp; done) | (simp; omega) | (simp at *; done) | (simp at *; omega)) ?_)
  refine s_storeN rfl rfl rfl rfl rfl (by first | trivial | (simp; done) | (simp; omega) | (simp at *; done) | (simp at *; omega)) rfl rfl rfl (by rw [cellsOf24]; rfl) (by rw [info24]; rfl) rfl rfl ?_
  repeat (first | refine W_seq ?_ | refine W_region ?_ | refine W_block ?_ | refine W_skip ?_ | refine W_ret ?_ | refine W_exit ?_ | refine WL_nil ?_ | refine N_then ?_ | refine N_then_exit ?_ | refine N_then_ret ?_ | refine N_block ?_ | refine N_block_ret ?_ | refine N_block_exit ?_ | refine N_block_pass rfl ?_ | refine sp true rfl rfl (by rw [hn]; rfl) (by first | trivial | (simp; done) | (simp; omega) | (simp at *; done) | (simp at *; omega)) ?_ | refine sg true rfl rfl rfl (by rw [hn]; rfl) (by intro hG; first | trivial | (simp; done) | (simp; omega) | (simp at *; done) | (simp at *; omega)) ?_)
  refine W_drawW 38 (by kernel_rfl) (by kernel_rfl) (by kernel_rfl) (by rw [hn]; rfl) rfl rfl ?_
  refine DrawW_cons rfl (ops_of (opys_call (known_ok) rfl rfl rfl (by first | trivial | (simp; done) | (simp; omega) | (simp at *; done) | (simp at *; omega)) rfl rfl rfl) rfl) ?_
  repeat (first | refine DrawW_cons rfl (ops_pure true rfl rfl (by first | trivial | (simp; done) | (simp; omega) | (simp at *; done) | (simp at *; omega))) ?_ | refine DrawW_cons rfl (ops_pureG true rfl rfl rfl (by intro hG; first | trivial | (simp; done) | (simp; omega) | (simp at *; done) | (simp at *; omega))) ?_ | refine DrawW_nil ?_)
  refine DrawW_cons rfl (ops_ofG rfl rfl (fun hG => opys_call (hx5) rfl rfl rfl (by first | exact hG | (first | trivial | (simp; done) | (simp; omega) | (simp at *; done) | (simp at *; omega))) rfl rfl rfl)) ?_
  repeat (first | refine DrawW_cons rfl (ops_pure true rfl rfl (by first | trivial | (simp; done) | (simp; omega) | (simp at *; done) | (simp at *; omega))) ?_ | refine DrawW_cons rfl (ops_pureG true rfl rfl rfl (by intro hG; first | trivial | (simp; done) | (simp; omega) | (simp at *; done) | (simp at *; omega))) ?_ | refine DrawW_nil ?_)
  refine DrawW_cons rfl (ops_ofG rfl rfl (fun hG => opys_call (hx7) rfl rfl rfl (by first | exact hG | (first | trivial | (simp; done) | (simp; omega) | (simp at *; done) | (simp at *; omega))) rfl rfl rfl)) ?_
  repeat (first | refine DrawW_cons rfl (ops_pure true rfl rfl (by first | trivial | (simp; done) | (simp; omega) | (simp at *; done) | (simp at *; omega))) ?_ | refine DrawW_cons rfl (ops_pureG true rfl rfl rfl (by intro hG; first | trivial | (simp; done) | (simp; omega) | (simp at *; done) | (simp at *; omega))) ?_ | refine DrawW_nil ?_)
  refine DrawW_cons rfl (ops_ofG rfl rfl (fun hG => opys_call (hx6) rfl rfl rfl (by first | exact hG | (first | trivial | (simp; done) | (simp; omega) | (simp at *; done) | (simp at *; omega))) rfl rfl rfl)) ?_
  repeat (first | refine DrawW_cons rfl (ops_pure true rfl rfl (by first | trivial | (simp; done) | (simp; omega) | (simp at *; done) | (simp at *; omega))) ?_ | refine DrawW_cons rfl (ops_pureG true rfl rfl rfl (by intro hG; first | trivial | (simp; done) | (simp; omega) | (simp at *; done) | (simp at *; omega))) ?_ | refine DrawW_nil ?_)
  refine DrawW_cons rfl (ops_ofG rfl rfl (fun hG => opys_call (of_ok pb ps) rfl rfl rfl (by first | exact hG | (first | trivial | (simp; done) | (simp; omega) | (simp at *; done) | (simp at *; omega))) rfl rfl rfl)) ?_
  repeat (first | refine DrawW_cons rfl (ops_pure true rfl rfl (by first | trivial | (simp; done) | (simp; omega) | (simp at *; done) | (simp at *; omega))) ?_ | refine DrawW_cons rfl (ops_pureG true rfl rfl rfl (by intro hG; first | trivial | (simp; done) | (simp; omega) | (simp at *; done) | (simp at *; omega))) ?_ | refine DrawW_nil ?_)
  refine DrawW_cons rfl (ops_ofG rfl rfl (fun hG => opys_call (refsame_ok pb pb ps ps (by omega) (by omega)) rfl rfl rfl (by first | exact hG | (first | trivial | (simp; done) | (simp; omega) | (simp at *; done) | (simp at *; omega))) rfl rfl rfl)) ?_
  repeat (first | refine DrawW_cons rfl (ops_pure true rfl rfl (by first | trivial | (simp; done) | (simp; omega) | (simp at *; done) | (simp at *; omega))) ?_ | refine DrawW_cons rfl (ops_pureG true rfl rfl rfl (by intro hG; first | trivial | (simp; done) | (simp; omega) | (simp at *; done) | (simp at *; omega))) ?_ | refine DrawW_nil ?_)
  refine DrawW_cons rfl (ops_ofG rfl rfl (fun hG => opys_call (hx8) rfl rfl rfl (by first | exact hG | (first | trivial | (simp; done) | (simp; omega) | (simp at *; done) | (simp at *; omega))) rfl rfl rfl)) ?_
  repeat (first | refine DrawW_cons rfl (ops_pure true rfl rfl (by first | trivial | (simp; done) | (simp; omega) | (simp at *; done) | (simp at *; omega))) ?_ | refine DrawW_cons rfl (ops_pureG true rfl rfl rfl (by intro hG; first | trivial | (simp; done) | (simp; omega) | (simp at *; done) | (simp at *; omega))) ?_ | refine DrawW_nil ?_)
  repeat (first | refine W_seq ?_ | refine W_region ?_ | refine W_block ?_ | refine W_skip ?_ | refine W_ret ?_ | refine W_exit ?_ | refine WL_nil ?_ | refine N_then ?_ | refine N_then_exit ?_ | refine N_then_ret ?_ | refine N_block ?_ | refine N_block_ret ?_ | refine N_block_exit ?_ | refine N_block_pass rfl ?_ | refine sp true rfl rfl (by rw [hn]; rfl) (by first | trivial | (simp; done) | (simp; omega) | (simp at *; done) | (simp at *; omega)) ?_ | refine sg true rfl rfl rfl (by rw [hn]; rfl) (by intro hG; first | trivial | (simp; done) | (simp; omega) | (simp at *; done) | (simp at *; omega)) ?_)
  refine N_retN [] rfl (by first | trivial | (simp; done) | (simp; omega) | (simp at *; done) | (simp at *; omega)) ⟨?_, by first | trivial | exact ⟨rfl, rfl⟩, ?_, rfl⟩ hb rfl (by first | trivial | (simp; done))
  · by_cases hz : pe = 0
    · rw [htf hz]
      simp
      rfl
    · have h1 : (pe != 0) = true := by simpa using hz
      simp [h1]
      rfl
  · trivial
end Go.Proofs.Ytppmfjopokkhmaa

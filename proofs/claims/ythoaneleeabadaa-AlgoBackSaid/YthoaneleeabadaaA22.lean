/-
  Chapter 18's law AlgoBack, walked: it returns true. The conditions: rows of bytes that a machine can hold.
-/
import Derived.Test.YthoaneleeabadaaA13
import Derived.Test.YthoaneleeabadaaA16
import Derived.Test.YthoaneleeabadaaA20
namespace Go.Proofs.Ythoaneleeabadaa
set_option linter.unusedSimpArgs false
set_option linter.unusedVariables false
open Go.Sx

set_option maxRecDepth 10000

theorem rightS_u {u : Int} {l : List Int} (h : rightS u l = true) : 0 ≤ u ∧ u ≤ 7 := by
  unfold rightS at h
  by_cases h0 : l = []
  · rw [if_pos h0] at h; simp at h; omega
  · rw [if_neg h0] at h; simp at h; omega
theorem bcont_ok (u : Int) (l : List Int) (hl : l.length ≤ 1000000) (hw : WfB l) : Ct Try.prog 117 [bitA u l] [] (.tup [B8 (if rightS u l = true then u :: l else []), lv (.int .i64 (if rightS u l = true then 0 else 1))]) [] [] := by
  have hr := bright_ok u l hl hw
  cases hg : rightS u l with
  | false =>
    rw [hg] at hr
    rw [if_neg (by simp), if_neg (by simp)]
    refine Ct_intro Try.func117 rfl rfl rfl rfl rfl (fun E hn hb => ?_)
    repeat refine nx ?_
    exact rtU []
  | true =>
    rw [hg] at hr
    have hu := rightS_u hg
    rw [if_pos rfl, if_pos rfl]
    refine Ct_intro Try.func117 rfl rfl rfl rfl rfl (fun E hn hb => ?_)
    repeat (first | refine lo1 ?_ | refine nx ?_)
    refine frzN 2 ?_
    exact rt1 []
/-- A bit string as a whole, or that it is none. -/
def wrS (u : Int) (l : List Int) : List Int × Int := if rightS u l = true then (wrapL (ofT 3) (u :: l), 0) else ([], 1)
theorem bwrite_ok (u : Int) (l : List Int) (hl : l.length ≤ 100000) (hw : WfB l) : Ct Try.prog 93 [bitA u l] [] (.tup [B8 (wrS u l).1, lv (.int .i64 (wrS u l).2)]) [] [] := by
  have hc := bcont_ok u l (by omega) hw
  have h1 := headof_ok 3
  unfold wrS
  cases hg : rightS u l with
  | false =>
    rw [hg, if_neg (by simp), if_neg (by simp)] at hc
    rw [if_neg (by simp)]
    refine Ct_intro Try.func93 rfl rfl rfl rfl rfl (fun E hn hb => ?_)
    repeat refine nx ?_
    exact rtU []
  | true =>
    rw [hg, if_pos rfl, if_pos rfl] at hc
    rw [if_pos rfl]
    have h2 := wrap_ok (ofT 3) [u :: l] (by decide) (by simp) (by simp; omega)
    rw [show [u :: l].flatten = u :: l by simp] at h2
    refine Ct_intro Try.func93 rfl rfl rfl rfl rfl (fun E hn hb => ?_)
    repeat refine nx ?_
    exact rt1 []
theorem rightS_zero (l : List Int) : rightS 0 l = true := by
  unfold rightS
  split
  · simp
  · simp
/-- A public key as a whole, or that it is none. -/
def wrK (o m n : List Int) : List Int × Int := if rightK o m n = true then (wrapL (ofT 16) (wrapL (ofT 16) (wrapL (ofT 6) (arcsL (numsL o)) ++ m) ++ wrapL (ofT 3) (0 :: n)), 0) else ([], 1)
theorem wrpub_ok (o m n : List Int) (ho : o.length ≤ 1000000) (hm : m.length ≤ 100000) (hn2 : n.length ≤ 1000000) (hw : WfB m) (hw2 : WfB n) : Ct Try.prog 49 [pubA o m n] [] (.tup [B8 (wrK o m n).1, lv (.int .i64 (wrK o m n).2)]) [] [] := by
  have hr := rightpub_ok o m n ho hm hn2 hw
  unfold wrK
  cases hg : rightK o m n with
  | false =>
    rw [hg] at hr
    rw [if_neg (by simp)]
    refine Ct_intro Try.func49 rfl rfl rfl rfl rfl (fun E hn hb => ?_)
    repeat refine nx ?_
    exact rtU []
  | true =>
    rw [hg] at hr
    rw [if_pos rfl]
    have h1 := hg
    unfold rightK at h1
    simp only [Bool.and_eq_true, decide_eq_true_eq] at h1
    have ha := wralg_ok o m ho hm hw
    have hs := bwrite_ok 0 n (by omega) hw2
    unfold wrG at ha
    unfold wrS at hs
    rw [if_pos h1.1] at ha
    rw [if_pos (rightS_zero n)] at hs
    have l1 := whole_len (rightG_o h1.1)
    have l2 := wrap_len (ofT 16) (wrapL (ofT 6) (arcsL (numsL o)) ++ m)
    have l3 := wrap_len (ofT 3) (0 :: n)
    simp only [List.length_append, List.length_cons] at l2 l3
    have hsq := sequence_ok [wrapL (ofT 16) (wrapL (ofT 6) (arcsL (numsL o)) ++ m), wrapL (ofT 3) (0 :: n)] (by simp) (by simp; omega)
    rw [show [wrapL (ofT 16) (wrapL (ofT 6) (arcsL (numsL o)) ++ m), wrapL (ofT 3) (0 :: n)].flatten = wrapL (ofT 16) (wrapL (ofT 6) (arcsL (numsL o)) ++ m) ++ wrapL (ofT 3) (0 :: n) by simp] at hsq
    generalize wrapL (ofT 16) (wrapL (ofT 6) (arcsL (numsL o)) ++ m) = W at *
    generalize wrapL (ofT 3) (0 :: n) = V at *
    refine Ct_intro Try.func49 rfl rfl rfl rfl rfl (fun E hn hb => ?_)
    repeat refine nx ?_
    exact rt1 []
theorem parS_back {x n : List Int} (h : parS x = (0, n, true)) : x = 0 :: n := by
  unfold parS at h
  match x, h with
  | u :: m, h =>
    dsimp only at h
    by_cases c : rightS u m = true
    · rw [if_pos c] at h
      simp only [Prod.mk.injEq] at h
      rw [h.1, h.2.1]
    · rw [if_neg c] at h; simp at h
theorem bitR_back {l n : List Int} {p q : Nat} (hw : WfB l) (h : bitR l p = (0, n, q, 0)) : l.drop p = wrapL (ofT 3) (0 :: n) ++ l.drop q := by
  unfold bitR at h
  generalize hX : openP l p (ofT 3) = X at *
  obtain ⟨x, q1, e⟩ := X
  dsimp only at *
  by_cases he : e = 0
  · subst he
    rw [if_pos rfl] at h
    by_cases h2 : (parS x).2.2 = true
    · rw [if_pos h2] at h
      simp only [Prod.mk.injEq] at h
      obtain ⟨h3, h4, rfl, _⟩ := h
      have : parS x = (0, n, true) := by rw [← h3, ← h4, ← h2]
      rw [← parS_back this]
      exact (open_back hw hX).2
    · rw [if_neg h2] at h; simp at h
  · rw [if_neg he] at h
    simp only [Prod.mk.injEq] at h
    exact absurd h.2.2.2 he
theorem pubP_back {x o m n : List Int} {q : Nat} (hw : WfB x) (h : pubP x = ((o, m, n), 0, q)) : x = wrapL (ofT 16) (wrapL (ofT 6) (arcsL (numsL o)) ++ m) ++ wrapL (ofT 3) (0 :: n) ∧ rightK o m n = true := by
  have hr := algR_right x 0 hw
  unfold pubP at h
  generalize hA : algR x 0 = A at *
  obtain ⟨o1, m1, e, q1⟩ := A
  dsimp only at *
  by_cases he : e = 0
  · subst he
    rw [if_pos rfl] at h
    have hle := bitR_le x q1
    have hle0 := algR_le x 0 (Nat.zero_le _)
    rw [hA] at hle0
    have hle := hle hle0.2
    generalize hB : bitR x q1 = B at *
    obtain ⟨u, n1, q2, f⟩ := B
    dsimp only at *
    by_cases hf : f = 0
    · subst hf
      rw [if_pos rfl] at h
      by_cases h2 : q2 < x.length
      · rw [if_pos h2] at h; simp at h
      · rw [if_neg h2] at h
        by_cases h3 : u = 0 ∧ (1 ≤ n1.length ∧ n1.length ≤ 64)
        · rw [if_pos h3] at h
          simp only [Prod.mk.injEq] at h
          obtain ⟨⟨rfl, rfl, rfl⟩, _, rfl⟩ := h
          obtain ⟨rfl, h3⟩ := h3
          have k1 := algR_back hw hA
          have k2 := bitR_back hw hB
          rw [List.drop_zero] at k1
          rw [List.drop_eq_nil_of_le (show x.length ≤ q2 by omega), List.append_nil] at k2
          refine ⟨?_, by rw [rightK_of (hr rfl)]; simpa using h3⟩
          rw [k1, k2]
        · rw [if_neg h3] at h; simp at h
    · rw [if_neg hf] at h
      simp only [Prod.mk.injEq] at h
      exact absurd h.2.1 hf
  · rw [if_neg he] at h
    simp only [Prod.mk.injEq] at h
    exact absurd h.2.1 he
theorem pubR_back {l o m n : List Int} {p q : Nat} (hw : WfB l) (h : pubR l p = ((o, m, n), 0, q)) : l.drop p = wrapL (ofT 16) (wrapL (ofT 16) (wrapL (ofT 6) (arcsL (numsL o)) ++ m) ++ wrapL (ofT 3) (0 :: n)) ++ l.drop q ∧ rightK o m n = true := by
  have hm := openP_mem l p (ofT 16)
  unfold pubR at h
  generalize hX : openP l p (ofT 16) = X at *
  obtain ⟨x, q1, e⟩ := X
  dsimp only at *
  by_cases he : e = 0
  · subst he
    rw [if_pos rfl] at h
    generalize hA : pubP x = A at *
    obtain ⟨⟨o1, m1, n1⟩, f, q2⟩ := A
    dsimp only at *
    by_cases hf : f = 0
    · subst hf
      rw [if_pos rfl] at h
      simp only [Prod.mk.injEq] at h
      obtain ⟨⟨rfl, rfl, rfl⟩, _, rfl⟩ := h
      have hb := pubP_back (fun y hy => hw y (hm.2 y hy)) hA
      rw [← hb.1]
      exact ⟨(open_back hw hX).2, hb.2⟩
    · rw [if_neg hf] at h
      simp only [Prod.mk.injEq] at h
      exact absurd h.2.1 hf
  · rw [if_neg he] at h
    simp only [Prod.mk.injEq] at h
    exact absurd h.2.1 he
end Go.Proofs.Ythoaneleeabadaa

namespace Go.Proofs.Ythoaneleeabadaa
set_option linter.unusedSimpArgs false
set_option linter.unusedVariables false
open Go.Sx

set_option maxRecDepth 10000

theorem take_back {l w : List Int} {q : Nat} (hq : q ≤ l.length) (h : l.drop 0 = w ++ l.drop q) : l.take (q : Int).toNat = w := by
  rw [List.drop_zero] at h
  have h1 := congrArg List.length h
  rw [List.length_append, List.length_drop] at h1
  have h2 : q = w.length := by omega
  rw [Int.toNat_natCast, h, h2, List.take_left]
theorem wfl_take {l : List Int} (h : WfB l) (n : Nat) : WfB (l.take n) := fun x hx => h x (List.mem_of_mem_take hx)
theorem pubR_le (l : List Int) (p : Nat) (hp : p ≤ l.length) : p ≤ (pubR l p).2.2 ∧ (pubR l p).2.2 ≤ l.length := by
  have h := openP_le l p (ofT 16) hp
  unfold pubR
  dsimp only
  split
  · split
    · exact h
    · exact ⟨Nat.le_refl _, hp⟩
  · exact ⟨Nat.le_refl _, hp⟩
theorem pubP_wf (x : List Int) (hw : WfB x) : WfB (pubP x).1.2.1 ∧ WfB (pubP x).1.2.2 := by
  have h2 := algR_len x 0
  have hm := openP_mem x (algR x 0).2.2.2 (ofT 3)
  have h3 : ∀ y ∈ (bitR x (algR x 0).2.2.2).2.1, y ∈ x := by
    unfold bitR
    dsimp only
    split
    · split
      · intro y hy
        refine hm.2 y ?_
        unfold parS at hy
        split at hy
        · cases hy
        · split at hy
          · rename_i e _; rw [e]; exact List.mem_cons_of_mem _ hy
          · cases hy
      · intro y hy; cases hy
    · intro y hy; cases hy
  have nil : WfB [] := fun y hy => by cases hy
  unfold pubP
  dsimp only
  split
  · split
    · split
      · exact ⟨nil, nil⟩
      · split
        · exact ⟨fun y hy => hw y (h2.2 y hy), fun y hy => hw y (h3 y hy)⟩
        · exact ⟨nil, nil⟩
    · exact ⟨nil, nil⟩
  · exact ⟨nil, nil⟩
theorem pubR_wf (l : List Int) (p : Nat) (hw : WfB l) : WfB (pubR l p).1.2.1 ∧ WfB (pubR l p).1.2.2 := by
  have hm := openP_mem l p (ofT 16)
  have h := pubP_wf (openP l p (ofT 16)).1 (fun y hy => hw y (hm.2 y hy))
  have nil : WfB [] := fun y hy => by cases hy
  unfold pubR
  dsimp only
  split
  · split
    · exact h
    · exact ⟨nil, nil⟩
  · exact ⟨nil, nil⟩
/-- SameAlg, if the first is right. -/
theorem samealg_any (o m o' m' : List Int) (ho : o.length ≤ 1000000) (hm : m.length ≤ 100000) (hw : WfB m) (ho' : o'.length ≤ 1000000) (hm' : m'.length ≤ 100000) (hw' : WfB m') (hr : rightG o m = true) :
    ∃ s : Bool, Ct Try.prog 48 [algA o m, algA o' m'] [] (lv (.bool s)) [] [] ∧ (rightG o' m' = true → s = decide ((wrG o m).1 = (wrG o' m').1)) := by
  cases hr' : rightG o' m' with
  | true => exact ⟨_, samealg_ok o m o' m' ho hm hw ho' hm' hw' hr hr', fun _ => rfl⟩
  | false =>
    refine ⟨false, ?_, fun h => by cases h⟩
    have h1 := wralg_ok o m ho hm hw
    have h2 := wralg_ok o' m' ho' hm' hw'
    have w1 := whole_len (rightG_o hr)
    unfold wrG at h1 h2
    rw [if_pos hr] at h1
    rw [if_neg (by simp [hr'])] at h2
    have l1 := wrap_len (ofT 16) (wrapL (ofT 6) (arcsL (numsL o)) ++ m)
    rw [List.length_append] at l1
    dsimp only at *
    generalize wrapL (ofT 16) (wrapL (ofT 6) (arcsL (numsL o)) ++ m) = X at *
    have heq := equal_ok X [] (by omega) (by simp)
    refine Ct_intro Try.func48 rfl rfl rfl rfl rfl (fun E hn hb => ?_)
    repeat refine nx ?_
    exact rt1 []
set_option maxHeartbeats 16000000 in
theorem back18_ok (b0 c0 : List Int) (hl0 : b0.length ≤ 9223372036854775807) (hl1 : c0.length ≤ 9223372036854775807) (hw0 : WfB b0) (hw1 : WfB c0) : Ct Try.prog 8 [B8 b0, B8 c0] [] (lv (.bool true)) [] [] := by
  have hkn := known18_ok
  have hlw : (b0.take (min (b0.length : Int) 500).toNat).length ≤ 500 := by simp; omega
  have hwf : WfB (b0.take (min (b0.length : Int) 500).toNat) := wfl_take hw0 _
  have hlw2 : (c0.take (min (c0.length : Int) 500).toNat).length ≤ 500 := by simp; omega
  have hwf2 : WfB (c0.take (min (c0.length : Int) 500).toNat) := wfl_take hw1 _
  refine Ct_intro Try.func8 rfl rfl rfl rfl rfl (fun E hn hb => ?_)
  repeat refine nx ?_
  generalize b0.take (min (b0.length : Int) 500).toNat = b at *
  generalize c0.take (min (c0.length : Int) 500).toNat = c at *
  have hcn := curnew_ok b (by omega)
  have hcn2 := curnew_ok c (by omega)
  have hra := readalg_ok b 0 (Nat.zero_le _) (by omega) hwf
  have hrc := fun _ : Unit => readalg_ok c 0 (Nat.zero_le _) (by omega) hwf2
  have hpa := readpub_ok b 0 (Nat.zero_le _) (by omega) hwf
  have ho := algR_o b 0 hwf
  have hm := algR_len b 0
  have ho' := algR_o c 0 hwf2
  have hm' := algR_len c 0
  have hp := pubR_len b 0 hwf
  have hpw := pubR_wf b 0 hwf
  have hle := algR_le b 0 (Nat.zero_le _)
  have hle' := algR_le c 0 (Nat.zero_le _)
  have hlp := pubR_le b 0 (Nat.zero_le _)
  have hrt := algR_right b 0 hwf
  have hrt' := algR_right c 0 hwf2
  have a1 := at_ok b (algR b 0).2.2.2
  have a3 := at_ok c (algR c 0).2.2.2
  have a2 := at_ok b (pubR b 0).2.2
  have bk : (algR b 0).2.2.1 = 0 → b.take ((algR b 0).2.2.2 : Int).toNat = (wrG (algR b 0).1 (algR b 0).2.1).1 := by
    intro he
    unfold wrG
    rw [if_pos (hrt he)]
    exact take_back hle.2 (algR_back hwf (by rw [← he]))
  have bk' : (algR c 0).2.2.1 = 0 → c.take ((algR c 0).2.2.2 : Int).toNat = (wrG (algR c 0).1 (algR c 0).2.1).1 := by
    intro he
    unfold wrG
    rw [if_pos (hrt' he)]
    exact take_back hle'.2 (algR_back hwf2 (by rw [← he]))
  have bp : (pubR b 0).2.1 = 0 → b.take ((pubR b 0).2.2 : Int).toNat = (wrK (pubR b 0).1.1 (pubR b 0).1.2.1 (pubR b 0).1.2.2).1 ∧ (wrK (pubR b 0).1.1 (pubR b 0).1.2.1 (pubR b 0).1.2.2).2 = 0 := by
    intro he
    have h := pubR_back (o := (pubR b 0).1.1) (m := (pubR b 0).1.2.1) (n := (pubR b 0).1.2.2) (q := (pubR b 0).2.2) hwf (by rw [← he])
    unfold wrK
    rw [if_pos h.2]
    exact ⟨take_back hlp.2 h.1, rfl⟩
  generalize algR b 0 = A at *
  generalize algR c 0 = A' at *
  generalize pubR b 0 = B at *
  obtain ⟨o, m, e, q⟩ := A
  obtain ⟨o', m', e', q'⟩ := A'
  obtain ⟨⟨o2, m2, n2⟩, e2, q2⟩ := B
  dsimp only at *
  have t1 : (b.take (q : Int).toNat).length ≤ 500 := by simp; omega
  have t2 : (c.take (q' : Int).toNat).length ≤ 500 := by simp; omega
  have t3 : (b.take (q2 : Int).toNat).length ≤ 500 := by simp; omega
  have wra := wralg_ok o m (by omega) (by omega) (fun y hy => hwf y (hm.2 y hy))
  have wrp := wrpub_ok o2 m2 n2 (by omega) (by omega) (by omega) hpw.1 hpw.2
  have s3 : e2 = 0 → Ct Try.prog 21 [B8 (wrK o2 m2 n2).1, B8 (b.take (q2 : Int).toNat)] [] (lv (.bool true)) [] [] := by
    intro h
    have h1 := bp h
    have := same_ok (wrK o2 m2 n2).1 (b.take (q2 : Int).toNat) (by rw [← h1.1]; omega) (by omega)
    rw [decide_eq_true h1.1.symm] at this
    exact this
  have w3 : e2 = 0 → (wrK o2 m2 n2).2 = 0 := fun h => (bp h).2
  generalize wrK o2 m2 n2 = V at *
  obtain ⟨V, f⟩ := V
  dsimp only at *
  by_cases he : e = 0
  · subst he
    have bk := bk rfl
    have hrt := hrt rfl
    have wl : (wrG o m).1.length ≤ 500 := by rw [← bk]; exact t1
    have w2 : (wrG o m).2 = 0 := by unfold wrG; rw [if_pos hrt]
    obtain ⟨s, sa, hs⟩ := samealg_any o m o' m' (by omega) (by omega) (fun y hy => hwf y (hm.2 y hy)) (by omega) (by omega) (fun y hy => hwf2 y (hm'.2 y hy)) hrt
    rw [w2] at wra
    generalize (wrG o m).1 = W at *
    have s1 := same_ok W (b.take (q : Int).toNat) (by omega) (by omega)
    rw [decide_eq_true bk.symm] at s1
    repeat refine nx ?_
    clear hra
    have hrc := hrc ()
    have s2 := same_ok (b.take (q : Int).toNat) (c.take (q' : Int).toNat) (by omega) (by omega)
    by_cases he' : e' = 0
    · subst he'
      rw [show decide (b.take (q : Int).toNat = c.take (q' : Int).toNat) = s by rw [hs (hrt' rfl), bk, bk' rfl]] at s2
      by_cases he2 : e2 = 0
      · subst he2
        have s3 := s3 rfl
        obtain rfl := w3 rfl
        repeat refine nx ?_
        refine rt2 [] (congrArg (fun x => lv (.bool x)) ?_) trivial; (simp [eqCs, Cell.kill, Cell.kill1])
      · repeat refine nx ?_
        refine rt2 [] (congrArg (fun x => lv (.bool x)) ?_) trivial; (simp [eqCs, Cell.kill, Cell.kill1])
    · generalize decide (b.take (q : Int).toNat = c.take (q' : Int).toNat) = t at *
      by_cases he2 : e2 = 0
      · subst he2
        have s3 := s3 rfl
        obtain rfl := w3 rfl
        repeat refine nx ?_
        refine rt2 [] (congrArg (fun x => lv (.bool x)) ?_) trivial; (simp [eqCs, Cell.kill, Cell.kill1])
      · repeat refine nx ?_
        refine rt2 [] (congrArg (fun x => lv (.bool x)) ?_) trivial; (simp [eqCs, Cell.kill, Cell.kill1])
  · by_cases he2 : e2 = 0
    · subst he2
      have s3 := s3 rfl
      obtain rfl := w3 rfl
      repeat refine nx ?_
      refine rt2 [] (congrArg (fun x => lv (.bool x)) ?_) trivial; (simp [eqCs, Cell.kill, Cell.kill1])
    · repeat refine nx ?_
      refine rt2 [] (congrArg (fun x => lv (.bool x)) ?_) trivial; (simp [eqCs, Cell.kill, Cell.kill1])
end Go.Proofs.Ythoaneleeabadaa

/-
  Chapter 18's law AlgoReads, walked: it returns true. The conditions: rows of bytes that a machine can hold.
-/
import Derived.Test.YthoaneleeabadaaA13
import Derived.Test.YthoaneleeabadaaA17
namespace Go.Proofs.Ythoaneleeabadaa
set_option linter.unusedSimpArgs false
set_option linter.unusedVariables false
open Go.Sx

set_option maxRecDepth 10000

theorem ofalg_ok (o m : List Int) : Ct Try.prog 44 [algA o m] [] (algA o m) [] [] := by
  refine Ct_intro Try.func44 rfl rfl rfl rfl rfl (fun E hn hb => ?_)
  repeat refine nx ?_
  exact rt1 []
theorem ofpub_ok (o m n : List Int) : Ct Try.prog 46 [pubA o m n] [] (pubA o m n) [] [] := by
  have h := ofalg_ok o m
  refine Ct_intro Try.func46 rfl rfl rfl rfl rfl (fun E hn hb => ?_)
  repeat refine nx ?_
  exact rt1 []
theorem likealg_ok (o m : List Int) (ho : o.length ≤ 1000000) (hm : m.length ≤ 1000000) : Ct Try.prog 43 [algA o m, algA o m] [] (lv (.bool true)) [] [] := by
  have h1 := refSame_ok o o ho ho
  rw [decide_eq_true rfl] at h1
  have h2 := same_ok m m hm hm
  rw [decide_eq_true rfl] at h2
  refine Ct_intro Try.func43 rfl rfl rfl rfl rfl (fun E hn hb => ?_)
  repeat refine nx ?_
  refine rt2 [] (congrArg (fun x => lv (.bool x)) ?_) trivial; (simp [eqCs, Cell.kill, Cell.kill1])
theorem likepub_ok (o m n : List Int) (ho : o.length ≤ 1000000) (hm : m.length ≤ 1000000) (hn2 : n.length ≤ 1000000) : Ct Try.prog 45 [pubA o m n, pubA o m n] [] (lv (.bool true)) [] [] := by
  have h1 := likealg_ok o m ho hm
  have h2 := same_ok n n hn2 hn2
  rw [decide_eq_true rfl] at h2
  refine Ct_intro Try.func45 rfl rfl rfl rfl rfl (fun E hn hb => ?_)
  repeat refine nx ?_
  refine rt2 [] (congrArg (fun x => lv (.bool x)) ?_) trivial; (simp [eqCs, Cell.kill, Cell.kill1])
theorem algR_o (l : List Int) (p : Nat) (hw : WfB l) : (algR l p).1.length ≤ 32 := by
  have h := algR_right l p hw
  by_cases he : (algR l p).2.2.1 = 0
  · exact rightO_len (rightG_o (h he))
  · have : (algR l p).1 = [] := by
      unfold algR at he ⊢
      dsimp only at he ⊢
      split
      · rename_i h1
        rw [if_pos h1] at he
        split
        · rename_i h2; rw [if_pos h2] at he; exact absurd rfl he
        · rfl
      · rfl
    rw [this]; simp
theorem pubP_len (x : List Int) (hw : WfB x) : (pubP x).1.1.length ≤ 32 ∧ (pubP x).1.2.1.length ≤ x.length ∧ (pubP x).1.2.2.length ≤ x.length := by
  have h1 := algR_o x 0 hw
  have h2 := algR_len x 0
  have h3 := bitR_len x (algR x 0).2.2.2
  unfold pubP
  dsimp only
  split
  · split
    · split
      · simp
      · split
        · exact ⟨h1, h2.1, h3⟩
        · simp
    · simp
  · simp
theorem pubR_len (l : List Int) (p : Nat) (hw : WfB l) : (pubR l p).1.1.length ≤ 32 ∧ (pubR l p).1.2.1.length ≤ l.length ∧ (pubR l p).1.2.2.length ≤ l.length := by
  have hm := openP_mem l p (ofT 16)
  have h := pubP_len (openP l p (ofT 16)).1 (fun y hy => hw y (hm.2 y hy))
  unfold pubR
  dsimp only
  split
  · split
    · exact ⟨h.1, Nat.le_trans h.2.1 hm.1, Nat.le_trans h.2.2 hm.1⟩
    · simp
  · simp
set_option maxHeartbeats 8000000 in
theorem reads18_ok (b0 : List Int) (hl0 : b0.length ≤ 9223372036854775807) (hw0 : WfB b0) : Ct Try.prog 7 [B8 b0] [] (lv (.bool true)) [] [] := by
  have hkn := known18_ok
  have hlw : (b0.take (min (b0.length : Int) 500).toNat).length ≤ 500 := by simp; omega
  have hwf : WfB (b0.take (min (b0.length : Int) 500).toNat) := fun x hx => hw0 x (List.mem_of_mem_take hx)
  refine Ct_intro Try.func7 rfl rfl rfl rfl rfl (fun E hn hb => ?_)
  repeat refine nx ?_
  generalize b0.take (min (b0.length : Int) 500).toNat = b at *
  have hcn := curnew_ok b (by omega)
  have hra := readalg_ok b 0 (Nat.zero_le _) (by omega) hwf
  have hrr := rreadalg_ok b 0 (Nat.zero_le _) (by omega) hwf
  have hpa := readpub_ok b 0 (Nat.zero_le _) (by omega) hwf
  have hpr := rreadpub_ok b 0 (Nat.zero_le _) (by omega) hwf
  have ho := algR_o b 0 hwf
  have hm := algR_len b 0
  have hp := pubR_len b 0 hwf
  have a1 := at_ok b (algR b 0).2.2.2
  have a2 := at_ok b (pubR b 0).2.2
  generalize algR b 0 = A at *
  generalize pubR b 0 = B at *
  obtain ⟨o, m, e, q⟩ := A
  obtain ⟨⟨o2, m2, n2⟩, e2, q2⟩ := B
  dsimp only at *
  have f1 := ofalg_ok o m
  have f2 := ofpub_ok o2 m2 n2
  have k1 := likealg_ok o m (by omega) (by omega)
  have k2 := likepub_ok o2 m2 n2 (by omega) (by omega) (by omega)
  repeat refine nx ?_
  refine rt2 [] (congrArg (fun x => lv (.bool x)) ?_) trivial; (simp [eqCs, Cell.kill, Cell.kill1])
end Go.Proofs.Ythoaneleeabadaa

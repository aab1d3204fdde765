/-
  Public keys that are read: the program's and the document's. The conditions: rows of bytes that a machine can hold.
-/
import Derived.Test.YthoaneleeabadaaGreatA12
namespace Go.Proofs.YthoaneleeabadaaGreat
set_option linter.unusedSimpArgs false
set_option linter.unusedVariables false
open Go.Sx
set_option maxRecDepth 10000
abbrev pubA (o m n : List Int) : Av := .agg [.lf (.ints .i64 o), .lf (.ints .u8 m), .lf (.ints .u8 n)]
def rightK (o m n : List Int) : Bool := rightG o m && (decide (1 ≤ n.length) && decide (n.length ≤ 64))
def pubP (x : List Int) : (List Int × List Int × List Int) × Int × Nat :=
  let a := algR x 0
  if a.2.2.1 = 0 then
    (let s := bitR x a.2.2.2
     if s.2.2.2 = 0 then
      (if s.2.2.1 < x.length then (([], [], []), 7, s.2.2.1)
       else if s.1 = 0 ∧ (1 ≤ s.2.1.length ∧ s.2.1.length ≤ 64) then ((a.1, a.2.1, s.2.1), 0, s.2.2.1) else (([], [], []), 6, s.2.2.1))
     else (([], [], []), s.2.2.2, s.2.2.1))
  else (([], [], []), a.2.2.1, a.2.2.2)
def pubR (l : List Int) (p : Nat) : (List Int × List Int × List Int) × Int × Nat :=
  let r := openP l p (ofT 16)
  if r.2.2 = 0 then (let a := pubP r.1; if a.2.1 = 0 then (a.1, 0, r.2.1) else (([], [], []), a.2.1, p)) else (([], [], []), r.2.2, p)
theorem algR_le (l : List Int) (p : Nat) (hp : p ≤ l.length) : p ≤ (algR l p).2.2.2 ∧ (algR l p).2.2.2 ≤ l.length := by
  have h := openP_le l p (ofT 16) hp
  unfold algR
  dsimp only
  split
  · split
    · exact h
    · exact ⟨Nat.le_refl _, hp⟩
  · exact ⟨Nat.le_refl _, hp⟩
theorem bitR_le (l : List Int) (p : Nat) (hp : p ≤ l.length) : p ≤ (bitR l p).2.2.1 ∧ (bitR l p).2.2.1 ≤ l.length := by
  have h := openP_le l p (ofT 3) hp
  unfold bitR
  dsimp only
  split
  · split
    · exact h
    · exact ⟨Nat.le_refl _, hp⟩
  · exact ⟨Nat.le_refl _, hp⟩
theorem parP_len (x : List Int) (p : Nat) : (parP x p).1.length ≤ x.length ∧ ∀ y ∈ (parP x p).1, y ∈ x := by
  unfold parP
  split
  · exact ⟨by simp, fun y h => by cases h⟩
  · dsimp only
    split
    · split
      · exact ⟨by simp, fun y h => by cases h⟩
      · split
        · exact ⟨by simp, fun y h => by cases h⟩
        · exact ⟨by simp, fun y h => List.mem_of_mem_drop h⟩
    · exact ⟨by simp, fun y h => by cases h⟩
theorem algR_len (l : List Int) (p : Nat) : (algR l p).2.1.length ≤ l.length ∧ ∀ y ∈ (algR l p).2.1, y ∈ l := by
  have hm := openP_mem l p (ofT 16)
  unfold algR algP
  dsimp only
  split
  · split
    · split
      · split
        · have := parP_len (openP l p (ofT 16)).1 (oidR (openP l p (ofT 16)).1 0).2.1
          exact ⟨Nat.le_trans this.1 hm.1, fun y h => hm.2 y (this.2 y h)⟩
        · exact ⟨by simp, fun y h => by cases h⟩
      · exact ⟨by simp, fun y h => by cases h⟩
    · exact ⟨by simp, fun y h => by cases h⟩
  · exact ⟨by simp, fun y h => by cases h⟩
theorem rightO_len {o : List Int} (h : rightO o = true) : o.length ≤ 32 := by
  match o, h with
  | a :: b :: t, h =>
    rw [rightO_cons] at h
    by_cases c1 : 30 < t.length
    · rw [if_pos c1] at h; cases h
    · simp; omega
theorem rightpub_ok (o m n : List Int) (ho : o.length ≤ 1000000) (hm : m.length ≤ 100000) (hn' : n.length ≤ 1000000) (hw : WfB m) : Ct Tryz.prog 16 [pubA o m n] [] (lv (.bool (rightK o m n))) [] [] := by
  have h := rightalg_ok o m ho hm hw
  unfold rightK
  generalize rightG o m = G at *
  cases G
  all_goals
    refine Ct_intro Tryz.func16 rfl rfl rfl rfl rfl (fun E hn hb => ?_)
    repeat refine nx ?_
    refine rt2 [] (congrArg (fun x => lv (.bool x)) ?_) trivial
    by_cases h1 : 1 ≤ n.length <;> by_cases h2 : n.length ≤ 64 <;> simp [h1, h2] <;> omega
theorem rightK_of {o m n : List Int} (h : rightG o m = true) : rightK o m n = decide (1 ≤ n.length ∧ n.length ≤ 64) := by
  unfold rightK
  rw [h, Bool.true_and, Bool.decide_and]
theorem bitR_len (l : List Int) (p : Nat) : (bitR l p).2.1.length ≤ l.length := by
  have hm := openP_mem l p (ofT 3)
  have hp : (parS (openP l p (ofT 3)).1).2.1.length ≤ (openP l p (ofT 3)).1.length := by
    unfold parS
    cases (openP l p (ofT 3)).1 with
    | nil => simp
    | cons u m => dsimp only; split <;> simp
  unfold bitR
  dsimp only
  split
  · split
    · exact Nat.le_trans hp hm.1
    · simp
  · simp
set_option maxHeartbeats 8000000 in
theorem public_ok (x : List Int) (hl : x.length ≤ 100000) (hw : WfB x) : Ct Tryz.prog 85 [rdA] [curB x 0] (.tup [pubA (pubP x).1.1 (pubP x).1.2.1 (pubP x).1.2.2, lv (.int .i64 (pubP x).2.1)]) [curB x (pubP x).2.2] [] := by
  have hra := readalg_ok x 0 (Nat.zero_le _) (by omega) hw
  have hle := algR_le x 0 (Nat.zero_le _)
  have hlen := algR_len x 0
  have hrt := algR_right x 0 hw
  unfold pubP
  generalize algR x 0 = A at *
  obtain ⟨o, m, e, q⟩ := A
  dsimp only at *
  by_cases he : e = 0
  · subst he
    have hrt := hrt rfl
    rw [if_pos rfl]
    have hbr := bread_ok x q hle.2 (by omega) hw
    have hble := bitR_le x q hle.2
    have hblen := bitR_len x q
    have ho32 : o.length ≤ 32 := rightO_len (by unfold rightG at hrt; simp at hrt; exact hrt.1)
    generalize bitR x q = B at *
    obtain ⟨u, n, q2, f⟩ := B
    dsimp only at *
    by_cases hf : f = 0
    · subst hf
      rw [if_pos rfl]
      have hlf := left_ok x q2 hble.2 (by omega)
      have hrk := rightpub_ok o m n (by omega) (by omega) (by omega) (fun y hy => hw y (hlen.2 y hy))
      rw [rightK_of hrt] at hrk
      by_cases h1 : q2 < x.length
      · rw [if_pos h1]
        refine Ct_intro Tryz.func85 rfl rfl rfl rfl rfl (fun E hn hb => ?_)
        repeat refine nx ?_
        refine rtU [] (hu := ?_)
        exact ⟨⟨.inr ⟨rfl, .inl ⟨_, rfl⟩⟩, .inr ⟨rfl, .inl ⟨_, rfl⟩⟩, .inr ⟨rfl, .inl ⟨_, rfl⟩⟩, trivial⟩, .inl rfl, trivial⟩
      · rw [if_neg h1]
        by_cases h2 : u = 0 ∧ (1 ≤ n.length ∧ n.length ≤ 64)
        · rw [if_pos h2]
          rw [decide_eq_true h2.2] at hrk
          obtain ⟨rfl, h3⟩ := h2
          refine Ct_intro Tryz.func85 rfl rfl rfl rfl rfl (fun E hn hb => ?_)
          repeat refine nx ?_
          exact rt1 []
        · rw [if_neg h2]
          by_cases h3 : u = 0
          · subst h3
            rw [decide_eq_false (fun h => h2 ⟨rfl, h⟩)] at hrk
            refine Ct_intro Tryz.func85 rfl rfl rfl rfl rfl (fun E hn hb => ?_)
            repeat refine nx ?_
            refine rtU [] (hu := ?_)
            exact ⟨⟨.inr ⟨rfl, .inl ⟨_, rfl⟩⟩, .inr ⟨rfl, .inl ⟨_, rfl⟩⟩, .inr ⟨rfl, .inl ⟨_, rfl⟩⟩, trivial⟩, .inl rfl, trivial⟩
          · refine Ct_intro Tryz.func85 rfl rfl rfl rfl rfl (fun E hn hb => ?_)
            repeat refine nx ?_
            refine rtU [] (hu := ?_)
            exact ⟨⟨.inr ⟨rfl, .inl ⟨_, rfl⟩⟩, .inr ⟨rfl, .inl ⟨_, rfl⟩⟩, .inr ⟨rfl, .inl ⟨_, rfl⟩⟩, trivial⟩, .inl rfl, trivial⟩
    · rw [if_neg hf]
      refine Ct_intro Tryz.func85 rfl rfl rfl rfl rfl (fun E hn hb => ?_)
      repeat refine nx ?_
      refine rtU [] (hu := ?_)
      exact ⟨⟨.inr ⟨rfl, .inl ⟨_, rfl⟩⟩, .inr ⟨rfl, .inl ⟨_, rfl⟩⟩, .inr ⟨rfl, .inl ⟨_, rfl⟩⟩, trivial⟩, .inl rfl, trivial⟩
  · rw [if_neg he]
    refine Ct_intro Tryz.func85 rfl rfl rfl rfl rfl (fun E hn hb => ?_)
    repeat refine nx ?_
    refine rtU [] (hu := ?_)
    exact ⟨⟨.inr ⟨rfl, .inl ⟨_, rfl⟩⟩, .inr ⟨rfl, .inl ⟨_, rfl⟩⟩, .inr ⟨rfl, .inl ⟨_, rfl⟩⟩, trivial⟩, .inl rfl, trivial⟩
theorem pubP_err (x : List Int) (h : ¬ (pubP x).2.1 = 0) : (pubP x).1 = ([], [], []) := by
  unfold pubP at h ⊢
  dsimp only at h ⊢
  split
  · rename_i h1
    rw [if_pos h1] at h
    split
    · rename_i h2
      rw [if_pos h2] at h
      split
      · rfl
      · rename_i h3
        rw [if_neg h3] at h
        split
        · rename_i h4; rw [if_pos h4] at h; exact absurd rfl h
        · rfl
    · rfl
  · rfl
set_option maxHeartbeats 4000000 in
theorem readpub_ok (l : List Int) (p : Nat) (hp : p ≤ l.length) (hl : l.length ≤ 100000) (hw : WfB l) : Ct Tryz.prog 30 [.c (.ptr 0 0)] [curB l p] (.tup [pubA (pubR l p).1.1 (pubR l p).1.2.1 (pubR l p).1.2.2, lv (.int .i64 (pubR l p).2.1)]) [curB l (pubR l p).2.2] [] := by
  have hat := at_ok l p
  have hok := opened_ok l p hp (by omega) hw
  have her := opened_err l p hp (by omega) hw
  have hle := openP_le l p (ofT 16) hp
  have hmem := openP_mem l p (ofT 16)
  unfold pubR
  generalize openP l p (ofT 16) = X at *
  obtain ⟨x, q, e⟩ := X
  dsimp only at *
  by_cases he : e = 0
  · subst he
    rw [if_pos rfl]
    have hok := hok rfl
    have hal := public_ok x (by omega) (fun y hy => hw y (hmem.2 y hy))
    have hnil := pubP_err x
    have hbk := back_ok l q p hle.1 (by omega)
    generalize pubP x = A at *
    obtain ⟨⟨o, m, n⟩, f, q2⟩ := A
    dsimp only at *
    by_cases hf : f = 0
    · subst hf
      rw [if_pos rfl]
      refine Ct_intro Tryz.func30 rfl rfl rfl rfl rfl (fun E hn hb => ?_)
      repeat refine nx ?_
      exact rt1 []
    · have hn2 := hnil hf
      simp only [Prod.mk.injEq] at hn2
      obtain ⟨rfl, rfl, rfl⟩ := hn2
      rw [if_neg hf]
      refine Ct_intro Tryz.func30 rfl rfl rfl rfl rfl (fun E hn hb => ?_)
      repeat refine nx ?_
      exact rt1 []
  · rw [if_neg he]
    have her := her he
    refine Ct_intro Tryz.func30 rfl rfl rfl rfl rfl (fun E hn hb => ?_)
    repeat refine nx ?_
    refine rtU [] (hu := ?_)
    exact ⟨⟨.inr ⟨rfl, .inl ⟨_, rfl⟩⟩, .inr ⟨rfl, .inl ⟨_, rfl⟩⟩, .inr ⟨rfl, .inl ⟨_, rfl⟩⟩, trivial⟩, .inl rfl, trivial⟩
end Go.Proofs.YthoaneleeabadaaGreat

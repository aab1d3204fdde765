/-
  Chapter 10's law ClockBack, walked: it returns true. The conditions: rows that a machine can hold.
-/
import Derived.Test.YthalijmfhllgbaaD22
import Derived.Test.YthalijmfhllgbaaC19
import Derived.Test.YthalijmfhllgbaaSxQ
namespace Go.Proofs.Ythalijmfhllgbaa
set_option linter.unusedSimpArgs false
set_option linter.unusedVariables false
open Go.Sx Dt

set_option maxRecDepth 10000

theorem readP_whole (t : TagP) (b c : List Int) (h : rightT t = true) (hb : b.length ≤ 16777216) : readP (wrapL t b ++ c) 0 = ((t, (b.length : Int)), (tgL t).length + (lenL b.length).length, 0) := by
  have e0 : wrapL t b ++ c = tgL t ++ (lenL b.length ++ (b ++ c)) := by simp [wrapL]
  have e1 := tagP_at [] (lenL b.length ++ (b ++ c)) t h
  have e2 := lenP_at (tgL t) (b ++ c) b.length hb (.inr trivial)
  rw [e0]
  unfold readP rawF
  rw [List.nil_append] at e1
  rw [show (0 : Nat) = ([] : List Int).length from rfl, e1]
  dsimp only
  rw [if_pos rfl, List.length_nil, Nat.zero_add, e2]
  rfl
theorem drop_whole (t : TagP) (b : List Int) : ((wrapL t b).drop ((tgL t).length + (lenL b.length).length)).take b.length = b := by
  unfold wrapL
  rw [← List.length_append, List.drop_left, List.take_length]
theorem kind_two {s : Int} (h : kindN s ≠ 0) : (kindN s = 23 ∨ kindN s = 24) ∧ rightM (kindN s) s = true ∧ rightM 24 s = true := by
  unfold rightM
  have : kindN s = 23 ∨ kindN s = 24 := by
    unfold kindN at *
    split
    · split
      · exact .inl rfl
      · exact .inr rfl
    · rename_i h'; rw [if_neg h'] at h; exact absurd rfl h
  rcases this with e | e <;> rw [e] <;> simp
theorem ofT_right {k : Int} (h : k = 23 ∨ k = 24) : rightT (ofT k) = true ∧ ofT k = (0, k, false) := by rcases h with rfl | rfl <;> decide
theorem con10_wf {k s : Int} (h : rightM k s = true) : WfB (con10 k s) := by
  have hp := at_parts (right_at h).1
  unfold con10
  have tw : ∀ n : Int, 0 ≤ n → WfB (tw2 n) := by
    intro n hn x hx
    simp only [tw2, List.mem_cons, List.not_mem_nil, or_false] at hx
    rcases hx with rfl | rfl <;> omega
  have tws : ∀ l : List Int, (∀ x ∈ l, 0 ≤ x) → WfB (tws2 l) := by
    intro l hl x hx
    obtain ⟨n, h1, h2⟩ := List.mem_flatMap.1 hx
    exact tw n (hl n h1) x h2
  unfold momL
  refine wfB_app (wfB_app ?_ (tws _ fun x hx => ?_)) (fun x hx => by rw [List.mem_singleton.1 hx]; omega)
  · split
    · exact tws _ fun x hx => by rw [List.mem_singleton.1 hx]; omega
    · intro x hx; cases hx
  · simp only [List.mem_cons, List.not_mem_nil, or_false] at hx
    omega
theorem readTm_whole {s : Int} (h : kindN s ≠ 0) : readTm (lkS true) (whole10 (kindN s) s) 0 = ((kindN s, s), (whole10 (kindN s) s).length, 0) := by
  obtain ⟨h1, h2, _⟩ := kind_two h
  obtain ⟨r1, r2⟩ := ofT_right h1
  have hl := con10_len (kindN s) s
  have hr := readP_whole (ofT (kindN s)) (con10 (kindN s) s) [] r1 (by omega)
  rw [List.append_nil] at hr
  have hd := drop_whole (ofT (kindN s)) (con10 (kindN s) s)
  have hw : (wrapL (ofT (kindN s)) (con10 (kindN s) s)).length = (tgL (ofT (kindN s))).length + (lenL (con10 (kindN s) s).length).length + (con10 (kindN s) s).length := by simp [wrapL, Nat.add_assoc]
  have hk : knownB (kindN s) = true := by rcases h1 with e | e <;> rw [e] <;> rfl
  have e1 : (ofT (kindN s)).1 = 0 := by rw [r2]
  have e2 : (ofT (kindN s)).2.1 = kindN s := by rw [r2]
  have e3 : (ofT (kindN s)).2.2 = false := by rw [r2]
  unfold readTm whole10
  rw [hr]
  dsimp only
  rw [e1, e2, e3, Int.toNat_natCast, hd, parse_con h2, hk, hw]
  have e4 : lkS true (kindN s) s = 0 := by simp [lkS]
  dsimp only
  rw [e4, if_neg (by simp), if_neg (by simp), if_neg (by omega), if_neg (by simp), if_neg (by simp)]
theorem genTm_whole {s : Int} (h : kindN s ≠ 0) : genTm (whole10 24 s) 0 = (s, (whole10 24 s).length, 0) := by
  obtain ⟨_, _, h2⟩ := kind_two h
  have hl := con10_len 24 s
  unfold genTm whole10
  rw [openP_whole (ofT 24) (con10 24 s) (by decide) (by omega)]
  dsimp only
  rw [parse_con h2, if_neg (by simp), if_neg (by simp)]
set_option maxHeartbeats 4000000 in
theorem back10_ok (s k : Int) (l0 : List Int) (hl0 : l0.length ≤ 9223372036854775807) (hs0 : (Lit.int .i64 s).wf = true) (hk0 : (Lit.int .i64 k).wf = true) (hw0 : WfB l0) : Ct Try.prog 10 [lv (.int .i64 s), lv (.int .i64 k), B8 l0] [] (lv (.bool true)) [] [] := by
  have hkn := known10ex_ok
  have hl : (l0.take (min (l0.length : Int) 100).toNat).length ≤ 100 := by simp; omega
  have g1 := of10_ok s
  have g2 := general_ok s
  have tail : ∀ (a b e : Int) (l : List Int), l.length ≤ 100 → parse10 k l = (a, b, e) → Ct Try.prog 22 [lv (.int .i64 k), B8 l] [] (parR (a, b, e)) [] [] ∧ (e = 0 → Ct Try.prog 26 [timA a b] [] (.tup [B8 l, lv (.int .i64 0)]) [] []) := by
    intro a b e l hl hp
    have h := parse10_ok k l (by omega)
    rw [hp] at h
    refine ⟨h, fun he => ?_⟩
    subst he
    obtain ⟨rfl, h1, h2⟩ := con_parse hp
    have := con10_ok a b h1
    rw [h2] at this
    exact this
  by_cases hK : kindN s = 0
  · rw [hK] at g1 g2
    refine Ct_intro Try.func10 rfl rfl rfl rfl rfl (fun E hn hb => ?_)
    repeat refine nx ?_
    generalize l0.take (min (l0.length : Int) 100).toNat = l at *
    have hsame := same_ok l l (by omega) (by omega)
    generalize hP : parse10 k l = P at *
    obtain ⟨a, b, e⟩ := P
    obtain ⟨t1, t2⟩ := tail a b e l hl hP
    by_cases he : e = 0
    · subst he
      have t3 := t2 rfl
      repeat refine nx ?_
      exact rt1 []
    · repeat refine nx ?_
      exact rt1 []
  · rw [if_neg hK, if_neg hK] at g1
    rw [if_neg hK, if_neg hK, if_neg hK] at g2
    obtain ⟨k1, k2, k3⟩ := kind_two hK
    have w1 := write10_ok (kindN s) s k2
    have w2 := write10_ok 24 s k3
    have q1 := readTm_whole hK
    have q2 := genTm_whole hK
    have f1 := wrap_wf (ofT (kindN s)) (con10 (kindN s) s) (ofT_right k1).1 (con10_wf k2)
    have f2 := wrap_wf (ofT 24) (con10 24 s) (by decide) (con10_wf k3)
    have n1 := wrap_len (ofT (kindN s)) (con10 (kindN s) s)
    have n2 := wrap_len (ofT 24) (con10 24 s)
    have m1 := con10_len (kindN s) s
    have m2 := con10_len 24 s
    change (whole10 (kindN s) s).length ≤ _ at n1
    change (whole10 24 s).length ≤ _ at n2
    have c1 := curnew_ok (whole10 (kindN s) s) (by omega)
    have c2 := curnew_ok (whole10 24 s) (by omega)
    have c3 := creadS_ok (whole10 (kindN s) s) 0 (by omega) (by omega) f1
    have c4 := creadG_ok (whole10 24 s) 0 (by omega) (by omega) f2
    rw [q1] at c3
    rw [q2] at c4
    dsimp only [tmR] at c3 c4
    generalize hW1 : whole10 (kindN s) s = W1 at *
    generalize hW2 : whole10 24 s = W2 at *
    generalize kindN s = K at *
    refine Ct_intro Try.func10 rfl rfl rfl rfl rfl (fun E hn hb => ?_)
    repeat refine nx ?_
    refine W_cond rfl (by simp) (fun hc => ?_) (fun hc => ?_)
    · simp [eqCs, Cell.kill, Cell.kill1] at hc
    repeat refine nx ?_
    generalize l0.take (min (l0.length : Int) 100).toNat = l at *
    have hsame := same_ok l l (by omega) (by omega)
    generalize hP : parse10 k l = P at *
    obtain ⟨a, b, e⟩ := P
    obtain ⟨t1, t2⟩ := tail a b e l hl hP
    by_cases he : e = 0
    · subst he
      have t3 := t2 rfl
      repeat refine nx ?_
      exact rt1 []
    · repeat refine nx ?_
      exact rt1 []
end Go.Proofs.Ythalijmfhllgbaa

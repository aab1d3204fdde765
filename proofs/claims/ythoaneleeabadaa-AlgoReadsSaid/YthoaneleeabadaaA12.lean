/-
  Algorithms and public keys: which are right; what is read is right. The conditions: rows of bytes that a machine can hold.
-/
import Derived.Test.YthoaneleeabadaaA6
import Derived.Test.YthoaneleeabadaaO3
namespace Go.Proofs.Ythoaneleeabadaa
set_option linter.unusedSimpArgs false
set_option linter.unusedVariables false
open Go.Sx

set_option maxRecDepth 10000

/-- The bits of a byte, so many of them; the weight of the next. -/
abbrev btk (x : Int) (j : Nat) : List Int := [x / 128 % 2, x / 64 % 2, x / 32 % 2, x / 16 % 2, x / 8 % 2, x / 4 % 2, x / 2 % 2, x / 1 % 2].take j
abbrev kvB (j : Nat) : Int := [128, 64, 32, 16, 8, 4, 2, 1, 0].getD j 0
set_option maxHeartbeats 8000000 in
theorem all5_ok (x : Int) (hx : 0 ≤ x ∧ x < 256) : Ct Try.prog 146 [B8 [x]] [] (I64 (btk x 8)) [] [] := by
  refine Ct_intro Try.func146 rfl rfl rfl rfl rfl (fun E hn hb => ?_)
  repeat refine nx ?_
  refine W_own_nil 3 900 1 (.ints .i64 []) rfl rfl (.inr (.inl ⟨_, rfl⟩)) ?_
  refine W_weaken (St.le_of (l := [(0, B8 [x]), (3, .c (.own 900 1 0 ([] : List Int).length)), (4, lv (.int .i64 0))]) (h := [(900, .row (.ints .i64 []))]) (by refine ⟨?_, ?_⟩ <;> (repeat' (first | exact trivial | exact rfl | refine ⟨?_, ?_⟩)) <;> first | exact rfl | (simp; done) | skip)) ?_
  refine W_loop (ι := Bool) (fun b => match b with
    | false => St.of [(0, B8 [x]), (3, .c (.own 900 1 0 ([] : List Int).length)), (4, lv (.int .i64 0))] [(900, .row (.ints .i64 []))]
    | true => St.of [(0, B8 [x]), (3, .c (.own 900 1 0 (btk x 8).length)), (4, lv (.int .i64 1))] [(900, .row (.ints .i64 (btk x 8)))]) (fun b => match b with | false => 1 | true => 0) (fun b => ?_) false
  cases b with
  | true =>
    dsimp only
    repeat refine nx ?_
    refine frzN 2 ?_
    exact rt1 []
  | false =>
    dsimp only
    repeat refine nx ?_
    refine W_weaken (St.le_of (l := [(0, B8 [x]), (3, .c (.own 900 1 0 (btk x 0).length)), (4, lv (.int .i64 0)), (5, lv (.int .i64 x)), (6, lv (.int .i64 (kvB 0)))]) (h := [(900, .row (.ints .i64 (btk x 0)))]) (by refine ⟨?_, ?_⟩ <;> (repeat' (first | exact trivial | exact rfl | refine ⟨?_, ?_⟩)) <;> first | exact rfl | (simp; done) | skip)) ?_
    refine W_loop (ι := {j : Nat // j ≤ 8}) (fun j => St.of [(0, B8 [x]), (3, .c (.own 900 1 0 (btk x j.1).length)), (4, lv (.int .i64 0)), (5, lv (.int .i64 x)), (6, lv (.int .i64 (kvB j.1)))] [(900, .row (.ints .i64 (btk x j.1)))]) (fun j => 8 - j.1) (fun j => ?_) ⟨0, Nat.zero_le _⟩
    obtain ⟨j, hj⟩ := j
    dsimp only
    by_cases h8 : j = 8
    · subst h8
      repeat refine nx ?_
      refine N_round true (by decide) (St.le_of ⟨⟨rfl, rfl, rfl⟩, rfl⟩)
    · have : j = 0 ∨ j = 1 ∨ j = 2 ∨ j = 3 ∨ j = 4 ∨ j = 5 ∨ j = 6 ∨ j = 7 := by omega
      rcases this with rfl | rfl | rfl | rfl | rfl | rfl | rfl | rfl
      · repeat refine nx ?_
        refine N_round ⟨1, by omega⟩ (by dsimp only; omega) (St.le_of ⟨⟨rfl, rfl, rfl, rfl, rfl⟩, rfl⟩)
      · repeat refine nx ?_
        refine N_round ⟨2, by omega⟩ (by dsimp only; omega) (St.le_of ⟨⟨rfl, rfl, rfl, rfl, rfl⟩, rfl⟩)
      · repeat refine nx ?_
        refine N_round ⟨3, by omega⟩ (by dsimp only; omega) (St.le_of ⟨⟨rfl, rfl, rfl, rfl, rfl⟩, rfl⟩)
      · repeat refine nx ?_
        refine N_round ⟨4, by omega⟩ (by dsimp only; omega) (St.le_of ⟨⟨rfl, rfl, rfl, rfl, rfl⟩, rfl⟩)
      · repeat refine nx ?_
        refine N_round ⟨5, by omega⟩ (by dsimp only; omega) (St.le_of ⟨⟨rfl, rfl, rfl, rfl, rfl⟩, rfl⟩)
      · repeat refine nx ?_
        refine N_round ⟨6, by omega⟩ (by dsimp only; omega) (St.le_of ⟨⟨rfl, rfl, rfl, rfl, rfl⟩, rfl⟩)
      · repeat refine nx ?_
        refine N_round ⟨7, by omega⟩ (by dsimp only; omega) (St.le_of ⟨⟨rfl, rfl, rfl, rfl, rfl⟩, rfl⟩)
      · repeat refine nx ?_
        refine N_round ⟨8, by omega⟩ (by dsimp only; omega) (St.le_of ⟨⟨rfl, rfl, rfl, rfl, rfl⟩, rfl⟩)
/-- The bits that are not used: none of them is set. -/
theorem low_bits : ∀ u : Fin 8, ∀ x : Fin 256, decide (((x.val : Nat) : Int) % 2 ^ u.val = 0) = ((btk ((x.val : Nat) : Int) 8).drop (8 - u.val)).all (fun b => decide (b = 0)) := by decide +kernel
theorem lowB {u x : Int} (hu : 0 ≤ u ∧ u ≤ 7) (hx : 0 ≤ x ∧ x < 256) : decide (x % 2 ^ u.toNat = 0) = ((btk x 8).drop (8 - u.toNat)).all (fun b => decide (b = 0)) := by
  obtain ⟨k, rfl⟩ : ∃ k : Nat, u = k := ⟨u.toNat, by omega⟩
  obtain ⟨y, rfl⟩ : ∃ y : Nat, x = y := ⟨x.toNat, by omega⟩
  exact low_bits ⟨k, by omega⟩ ⟨y, by omega⟩
theorem drop_last {l : List Int} (h : l ≠ []) : l.drop (l.length - 1) = [l.getD (l.length - 1) 0] := by
  have : 0 < l.length := by
    cases l with
    | nil => exact absurd rfl h
    | cons => simp
  rw [List.drop_eq_getElem_cons (by omega), List.drop_eq_nil_of_le (by omega), List.getD_eq_getElem?_getD, List.getElem?_eq_getElem (by omega)]
  rfl
set_option maxHeartbeats 8000000 in
theorem rbright_ok (u : Int) (l : List Int) (hl : l.length ≤ 1000000) (hw : WfB l) : Ct Try.prog 130 [bitA u l] [] (lv (.bool (rightS u l))) [] [] := by
  have hx := wfl_at hw (l.length - 1)
  unfold rightS
  by_cases h0 : l = []
  · rw [if_pos h0]
    subst h0
    refine Ct_intro Try.func130 rfl rfl rfl rfl rfl (fun E hn hb => ?_)
    repeat refine nx ?_
    refine rt2 [] (congrArg (fun x => lv (.bool x)) ?_) trivial
    rfl
  · rw [if_neg h0]
    have hlp : 0 < l.length := by
      cases l with
      | nil => exact absurd rfl h0
      | cons => simp
    by_cases hu : 0 ≤ u ∧ u ≤ 7
    · have hdl := drop_last h0
      rw [lowB hu hx, decide_eq_true hu.1, decide_eq_true hu.2]
      have hal := all5_ok (l.getD (l.length - 1) 0) hx
      rw [← hdl] at hal
      generalize hL : btk (l.getD (l.length - 1) 0) 8 = L at *
      have hLl : L.length = 8 := by rw [← hL]; rfl
      have he : (((l.length : Int) - 1).toNat) = l.length - 1 := by omega
      rw [← he] at hal
      have hLz : ∀ k, k < 8 → (L.drop k).all (fun b => decide (b = 0)) = (decide (L.getD k 0 = 0) && (L.drop (k + 1)).all (fun b => decide (b = 0))) := by
        intro k hk
        rw [List.drop_eq_getElem_cons (by omega), List.getD_eq_getElem?_getD, List.getElem?_eq_getElem (by omega)]
        rfl
      obtain ⟨k0, hk0⟩ : ∃ k0 : Nat, 8 - u = k0 := ⟨(8 - u).toNat, by omega⟩
      rw [show 8 - u.toNat = k0 by omega]
      obtain ⟨R, hR⟩ : ∃ R, (L.drop k0).all (fun b => decide (b = 0)) = R := ⟨_, rfl⟩
      rw [hR]
      clear hL hdl hx
      refine Ct_intro Try.func130 rfl rfl rfl rfl rfl (fun E hn hb => ?_)
      repeat refine nx ?_
      rw [hk0]
      refine W_weaken (St.le_of (l := [(3, I64 L), (4, lv (.int .i64 (k0 : Int)))]) (h := []) (by refine ⟨?_, ?_⟩ <;> (repeat' (first | exact trivial | exact rfl | refine ⟨?_, ?_⟩)) <;> first | exact rfl | (simp; done) | skip)) ?_
      refine W_loop (ι := {k : Nat // k ≤ 8 ∧ (L.drop k).all (fun b => decide (b = 0)) = R}) (fun k => St.of [(3, I64 L), (4, lv (.int .i64 (k.1 : Int)))] []) (fun k => 8 - k.1) (fun k => ?_) ⟨k0, by omega, hR⟩
      obtain ⟨k, hk, hkR⟩ := k
      dsimp only
      by_cases hk8 : k < 8
      · rw [hLz k hk8] at hkR
        obtain ⟨z, hz1⟩ : ∃ z, L.getD k 0 = z := ⟨_, rfl⟩
        have hz2 : L.getD (k : Int).toNat 0 = z := by rw [Int.toNat_natCast]; exact hz1
        rw [hz1] at hkR
        by_cases hz : z = 0
        · subst hz
          repeat (first | refine nx ?_ | rw [hz2])
          refine N_round ⟨k + 1, by omega, by simpa using hkR⟩ (by dsimp only; omega) (St.le_of ⟨⟨rfl, rfl⟩, trivial⟩)
        · have hRf : R = false := by rw [← hkR]; simp [hz]
          subst hRf
          repeat (first | refine nx ?_ | rw [hz2])
          exact rt1 []
      · obtain rfl : k = 8 := by omega
        have hRt : R = true := by rw [← hkR, List.drop_eq_nil_of_le (by omega)]; rfl
        subst hRt
        repeat refine nx ?_
        exact rt1 []
    · have : ¬ 0 ≤ u ∨ ¬ u ≤ 7 := by omega
      have hf : (decide (0 ≤ u) && decide (u ≤ 7) && decide (l.getD (l.length - 1) 0 % 2 ^ u.toNat = 0)) = false := by
        rcases this with h | h
        · rw [decide_eq_false h]; rfl
        · rw [decide_eq_false h]; cases decide (0 ≤ u) <;> rfl
      rw [hf]
      refine Ct_intro Try.func130 rfl rfl rfl rfl rfl (fun E hn hb => ?_)
      repeat refine nx ?_
      exact rt1 []
end Go.Proofs.Ythoaneleeabadaa

namespace Go.Proofs.Ythoaneleeabadaa
set_option linter.unusedSimpArgs false
set_option linter.unusedVariables false
open Go.Sx

set_option maxRecDepth 10000

theorem rbparse_ok (l : List Int) (hl : l.length ≤ 1000000) (hw : WfB l) : Ct Try.prog 111 [B8 l] [] (.tup [bitA (parS l).1 (parS l).2.1, lv (.bool (parS l).2.2)]) [] [] := by
  cases l with
  | nil =>
    refine Ct_intro Try.func111 rfl rfl rfl rfl rfl (fun E hn hb => ?_)
    repeat refine nx ?_
    refine rtU [] (hu := ?_)
    exact ⟨⟨.inl rfl, .inr ⟨rfl, .inl ⟨_, rfl⟩⟩, trivial⟩, .inl rfl, trivial⟩
  | cons u m =>
    have hr := rbright_ok u m (by simp at hl; omega) (fun x hx => hw x (List.mem_cons_of_mem _ hx))
    have hu := hw u (List.mem_cons_self ..)
    have hm : m.length ≤ 1000000 := by simp at hl; omega
    unfold parS
    dsimp only
    by_cases hrs : rightS u m = true
    · rw [if_pos hrs]
      rw [hrs] at hr
      refine Ct_intro Try.func111 rfl rfl rfl rfl rfl (fun E hn hb => ?_)
      repeat refine nx ?_
      exact rt1 []
    · rw [if_neg hrs]
      rw [Bool.not_eq_true] at hrs
      rw [hrs] at hr
      refine Ct_intro Try.func111 rfl rfl rfl rfl rfl (fun E hn hb => ?_)
      repeat refine nx ?_
      refine rtU [] (hu := ?_)
      exact ⟨⟨.inl rfl, .inr ⟨rfl, .inl ⟨_, rfl⟩⟩, trivial⟩, .inl rfl, trivial⟩
/-- The document's: the contents of the next bit string, the place behind it, the error. -/
def rbitR (l : List Int) (p : Nat) : List Int × Nat × Int :=
  let r := openP l p (ofT 3)
  if r.2.2 = 0 then (if (parS r.1).2.2 = true then (r.1, r.2.1, 0) else ([], p, 6)) else ([], p, r.2.2)
theorem rbread_ok (l : List Int) (p : Nat) (hp : p ≤ l.length) (hl : l.length ≤ 1000000) (hw : WfB l) : Ct Try.prog 80 [B8 l, lv (.int .i64 (p : Int)), lv (.int .i64 0)] [] (.tup [B8 (rbitR l p).1, lv (.int .i64 ((rbitR l p).2.1 : Int)), lv (.int .i64 (rbitR l p).2.2)]) [] [] := by
  have hof := refoft_ok 3
  have hop := refopen_ok l p (ofT 3) hp hl hw
  have hmem := openP_mem l p (ofT 3)
  unfold rbitR
  generalize openP l p (ofT 3) = X at *
  obtain ⟨x, q, e⟩ := X
  dsimp only at *
  have hpa := rbparse_ok x (by omega) (fun y hy => hw y (hmem.2 y hy))
  by_cases he : e = 0
  · subst he
    rw [if_pos rfl]
    by_cases hs : (parS x).2.2 = true
    · rw [if_pos hs]
      rw [hs] at hpa
      generalize parS x = Y at *
      refine Ct_intro Try.func80 rfl rfl rfl rfl rfl (fun E hn hb => ?_)
      repeat refine nx ?_
      exact rt1 []
    · rw [if_neg hs]
      rw [Bool.not_eq_true] at hs
      rw [hs] at hpa
      generalize parS x = Y at *
      refine Ct_intro Try.func80 rfl rfl rfl rfl rfl (fun E hn hb => ?_)
      repeat refine nx ?_
      exact rtU []
  · rw [if_neg he]
    refine Ct_intro Try.func80 rfl rfl rfl rfl rfl (fun E hn hb => ?_)
    repeat refine nx ?_
    exact rtU []
end Go.Proofs.Ythoaneleeabadaa

namespace Go.Proofs.Ythoaneleeabadaa
set_option linter.unusedSimpArgs false
set_option linter.unusedVariables false
open Go.Sx

set_option maxRecDepth 10000

theorem inR_of {n : Int} (h : 0 ≤ n ∧ n ≤ 2147483647) : inR n = true := by simp [inR]; omega
theorem spl_right {n : Int} (h : 0 ≤ n ∧ n ≤ 2147483647) : rightO (splA n) = true := by
  unfold splA
  by_cases c : n < 80
  · rw [if_pos c, rightO_cons, if_neg (by simp)]
    have h1 : ([n / 40, n % 40] : List Int).all inR = true := by
      simp only [List.all_cons, List.all_nil, Bool.and_true, Bool.and_eq_true]
      exact ⟨inR_of (by omega), inR_of (by omega)⟩
    rw [if_neg (by rw [h1]; simp), if_pos (by omega)]
    simp; omega
  · rw [if_neg c, rightO_cons, if_neg (by simp)]
    have h1 : ([2, n - 80] : List Int).all inR = true := by
      simp only [List.all_cons, List.all_nil, Bool.and_true, Bool.and_eq_true]
      exact ⟨inR_of (by omega), inR_of (by omega)⟩
    rw [if_neg (by rw [h1]; simp), if_neg (by omega), if_pos rfl]
    simp; omega
theorem right_snoc {o : List Int} {n : Int} (ho : rightO o = true) (hl : o.length ≠ 32) (h : 0 ≤ n ∧ n ≤ 2147483647) : rightO (o ++ [n]) = true := by
  match o, ho with
  | a :: b :: t, ho =>
    rw [List.cons_append, List.cons_append, rightO_cons]
    rw [rightO_cons] at ho
    by_cases c1 : 30 < t.length
    · rw [if_pos c1] at ho; cases ho
    · rw [if_neg c1] at ho
      by_cases c2 : (a :: b :: t).all inR = false
      · rw [if_pos c2] at ho; cases ho
      · rw [if_neg c2] at ho
        rw [if_neg (by simp at hl ⊢; omega)]
        have h1 : (a :: b :: (t ++ [n])).all inR = true := by
          rw [Bool.not_eq_false] at c2
          rw [← List.cons_append, ← List.cons_append, List.all_append, c2]
          simp [inR_of h]
        rw [if_neg (by rw [h1]; simp)]
        exact ho
theorem prA_right (l : List Int) (hw : WfB l) : ∀ (k p : Nat) (o : List Int), l.length - p < k → (rightO o = true ∨ (o = [] ∧ p < l.length)) → (prA k l p o).2 = 0 → rightO (prA k l p o).1 = true
  | 0, p, o, h, _, _ => by omega
  | k + 1, p, o, h, ho, he => by
    unfold prA at he ⊢
    by_cases hp : p < l.length
    · rw [if_pos hp] at he ⊢
      dsimp only at he ⊢
      have hn := (nxA_le (l.drop p) p 0 true).2.2 (by rw [drop_at l p hp]; simp)
      have hr := nxA_rng (l.drop p) p 0 true (by omega) (fun x hx => hw x (List.mem_of_mem_drop hx))
      split at he
      · rename_i h1
        rw [if_pos h1]
        split at he
        · simp at he
        · rename_i h2
          rw [if_neg h2]
          refine prA_right l hw k _ _ (by omega) (.inl ?_) he
          rcases ho with ho | ⟨rfl, _⟩
          · have : ¬ o.length = 0 := by
              intro h; rw [List.eq_nil_of_length_eq_zero h] at ho; cases ho
            rw [if_neg this]
            exact right_snoc ho h2 hr
          · rw [if_pos (by rfl), List.nil_append]
            exact spl_right hr
      · rename_i h1
        exact absurd he h1
    · rw [if_neg hp]
      rcases ho with ho | ⟨_, h⟩
      · exact ho
      · exact absurd h hp
theorem oidP_right (l : List Int) (hw : WfB l) (he : (oidP l).2 = 0) : rightO (oidP l).1 = true := by
  unfold oidP at he ⊢
  by_cases h0 : l = []
  · rw [if_pos h0] at he; simp at he
  · rw [if_neg h0] at he ⊢
    have : 0 < l.length := by
      cases l with
      | nil => exact absurd rfl h0
      | cons => simp
    exact prA_right l hw _ _ _ (by omega) (.inr ⟨rfl, this⟩) he
/-- Is it an algorithm? -/
def rightG (o m : List Int) : Bool := rightO o && (decide ((wholesP m 0).2 = 0) && decide ((wholesP m 0).1.length < 2))
theorem algP_right (x : List Int) (p : Nat) (hp : p ≤ x.length) (hw : WfB x) (he : (algP x p).2.2.1 = 0) : rightG (algP x p).1 (algP x p).2.1 = true := by
  have hle := oidR_le x p hp
  have hor : (oidR x p).2.2 = 0 → rightO (oidR x p).1 = true := by
    intro h
    have hmem := openP_mem x p (ofT 6)
    unfold oidR at h ⊢
    dsimp only at h ⊢
    split at h
    · rename_i h1
      rw [if_pos h1]
      split at h
      · rename_i h2
        rw [if_pos h2]
        exact oidP_right _ (fun y hy => hw y (hmem.2 y hy)) h2
      · rename_i h2; exact absurd h h2
    · rename_i h1; exact absurd h h1
  unfold algP at he ⊢
  dsimp only at he ⊢
  generalize oidR x p = O at *
  obtain ⟨o, q, e⟩ := O
  dsimp only at *
  by_cases h1 : e = 0
  · subst h1
    have ho := hor rfl
    rw [if_pos rfl] at he ⊢
    by_cases h2 : (parP x q).2.1 = 0
    · rw [if_pos h2]
      dsimp only
      unfold rightG
      rw [ho, Bool.true_and]
      unfold parP at h2 ⊢
      by_cases h3 : q = x.length
      · rw [if_pos h3]; rfl
      · rw [if_neg h3] at h2 ⊢
        dsimp only at h2 ⊢
        by_cases h4 : (readP x q).2.2 = 0
        · rw [if_pos h4] at h2 ⊢
          by_cases h5 : (x.length : Int) - ((readP x q).2.1 : Int) < (readP x q).1.2
          · rw [if_pos h5] at h2; simp at h2
          · rw [if_neg h5] at h2 ⊢
            by_cases h6 : (readP x q).1.2 < (x.length : Int) - ((readP x q).2.1 : Int)
            · rw [if_pos h6] at h2; simp at h2
            · rw [if_neg h6]
              rw [wholes_one x q (by omega) h4 (by omega)]
              rfl
        · rw [if_neg h4] at h2; exact absurd h2 h4
    · rw [if_neg h2] at he; exact absurd he h2
  · rw [if_neg h1] at he; exact absurd he h1
theorem algR_right (l : List Int) (p : Nat) (hw : WfB l) (he : (algR l p).2.2.1 = 0) : rightG (algR l p).1 (algR l p).2.1 = true := by
  have hmem := openP_mem l p (ofT 16)
  have ha := algP_right (openP l p (ofT 16)).1 0 (Nat.zero_le _) (fun y hy => hw y (hmem.2 y hy))
  unfold algR at he ⊢
  dsimp only at he ⊢
  split at he
  · rename_i h1
    rw [if_pos h1]
    split at he
    · rename_i h2
      rw [if_pos h2]
      exact ha h2
    · rename_i h2; exact absurd he h2
  · rename_i h1; exact absurd he h1
set_option maxHeartbeats 4000000 in
theorem rightalg_ok (o m : List Int) (ho : o.length ≤ 1000000) (hm : m.length ≤ 100000) (hw : WfB m) : Ct Try.prog 88 [algA o m] [] (lv (.bool (rightG o m))) [] [] := by
  have hr := right_ok o ho
  have hcn := curnew_ok m (by omega)
  have hwh := wholes_ok m 0 (Nat.zero_le _) hm hw
  unfold rightG
  generalize wholesP m 0 = W at *
  obtain ⟨rs, e⟩ := W
  dsimp only at *
  cases hrr : rightO o with
  | false =>
    rw [hrr] at hr
    refine Ct_intro Try.func88 rfl rfl rfl rfl rfl (fun E hn hb => ?_)
    repeat refine nx ?_
    exact rt1 []
  | true =>
    rw [hrr] at hr
    rw [Bool.true_and]
    by_cases he : e = 0
    · subst he
      rw [if_pos rfl] at hwh
      refine Ct_intro Try.func88 rfl rfl rfl rfl rfl (fun E hn hb => ?_)
      repeat refine nx ?_
      refine rt2 [] (congrArg (fun x => lv (.bool x)) ?_) trivial
      simp; omega
    · rw [if_neg he] at hwh
      rw [decide_eq_false he]
      refine Ct_intro Try.func88 rfl rfl rfl rfl rfl (fun E hn hb => ?_)
      repeat refine nx ?_
      refine rt2 [] (congrArg (fun x => lv (.bool x)) ?_) trivial
      simp [he]
end Go.Proofs.Ythoaneleeabadaa

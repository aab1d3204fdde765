/-
  Public keys that are read: the program's and the document's. The conditions: rows of bytes that a machine can hold.
-/
import Derived.Test.YthoaneleeabadaaM1
import Derived.Test.YthoaneleeabadaaSxP
import Derived.Test.YthoaneleeabadaaC12
import Derived.Test.YthoaneleeabadaaSxQ
import Derived.Test.YthoaneleeabadaaO3
namespace Go.Proofs.Ythoaneleeabadaa
set_option linter.unusedSimpArgs false
set_option linter.unusedVariables false
open Go.Sx

set_option maxRecDepth 10000

@[simp] theorem KS_len : KS.length = 64 := rfl
@[simp] theorem KS_nil : KS ≠ [] := by intro h; cases h
abbrev u32C (x : Int) : Cell := .lf (.v (.int .u32 x))
end Go.Proofs.Ythoaneleeabadaa

namespace Go.Proofs.Ythoaneleeabadaa
set_option linter.unusedSimpArgs false
set_option linter.unusedVariables false
open Go.Sx

set_option maxRecDepth 10000

/-- A hash's cells. -/
abbrev hC (v : V8) (bg : Bool) (X : Cell) (n : Int) : List Cell := [u32C v.a, u32C v.b, u32C v.c, u32C v.d, u32C v.e, u32C v.f, u32C v.g, u32C v.h, .lf (.v (.bool bg)), X, .lf (.v (.int .i64 n))]
end Go.Proofs.Ythoaneleeabadaa

namespace Go.Proofs.Ythoaneleeabadaa
set_option linter.unusedSimpArgs false
set_option linter.unusedVariables false
open Go.Sx

set_option maxRecDepth 10000

theorem wfl_at {l : List Int} (h : WfB l) (p : Nat) : 0 ≤ l.getD p 0 ∧ l.getD p 0 < 256 := by
  rw [List.getD_eq_getElem?_getD]
  cases hx : l[p]? with
  | none => exact ⟨by simp, by simp⟩
  | some x => exact h x (List.mem_of_getElem? hx)
abbrev bitA (u : Int) (l : List Int) : Av := .agg [.lf (.v (.int .i64 u)), .lf (.ints .u8 l)]
/-- Is it a bit string? -/
def rightS (u : Int) (l : List Int) : Bool := if l = [] then decide (u = 0) else decide (0 ≤ u) && decide (u ≤ 7) && decide (l.getD (l.length - 1) 0 % 2 ^ u.toNat = 0)
theorem mask8 : ∀ k : Fin 8, ∀ x : Fin 256, (IntKind.u8.wrap (BitVec.ofInt IntKind.u8.bits ((x.val : Nat) : Int) &&& BitVec.ofInt IntKind.u8.bits (1 * 2 ^ min (((k.val : Nat) : Int).toNat) IntKind.u8.bits - 1)).toNat == 0) = decide (((x.val : Nat) : Int) % 2 ^ (((k.val : Nat) : Int).toNat) = 0) := by decide +kernel
theorem maskU {u x : Int} (hu : 0 ≤ u ∧ u ≤ 7) (hx : 0 ≤ x ∧ x < 256) : (IntKind.u8.wrap (BitVec.ofInt IntKind.u8.bits x &&& BitVec.ofInt IntKind.u8.bits (1 * 2 ^ min u.toNat IntKind.u8.bits - 1)).toNat == 0) = decide (x % 2 ^ u.toNat = 0) := by
  obtain ⟨k, rfl⟩ : ∃ k : Nat, u = k := ⟨u.toNat, by omega⟩
  obtain ⟨y, rfl⟩ : ∃ y : Nat, x = y := ⟨x.toNat, by omega⟩
  exact mask8 ⟨k, by omega⟩ ⟨y, by omega⟩
set_option maxHeartbeats 8000000 in
theorem bright_ok (u : Int) (l : List Int) (hl : l.length ≤ 1000000) (hw : WfB l) : Ct Try.prog 134 [bitA u l] [] (lv (.bool (rightS u l))) [] [] := by
  have hx := wfl_at hw (l.length - 1)
  unfold rightS
  by_cases h0 : l = []
  · rw [if_pos h0]
    subst h0
    refine Ct_intro Try.func134 rfl rfl rfl rfl rfl (fun E hn hb => ?_)
    repeat refine nx ?_
    refine rt2 [] (congrArg (fun x => lv (.bool x)) ?_) trivial
    rfl
  · rw [if_neg h0]
    have hlp : 0 < l.length := by
      cases l with
      | nil => exact absurd rfl h0
      | cons => simp
    by_cases hu : 0 ≤ u ∧ u ≤ 7
    · have : u = 0 ∨ u = 1 ∨ u = 2 ∨ u = 3 ∨ u = 4 ∨ u = 5 ∨ u = 6 ∨ u = 7 := by omega
      rcases this with rfl | rfl | rfl | rfl | rfl | rfl | rfl | rfl
      all_goals
        refine Ct_intro Try.func134 rfl rfl rfl rfl rfl (fun E hn hb => ?_)
        repeat refine nx ?_
        refine rt2 [] (congrArg (fun x => lv (.bool x)) ?_) trivial
        rw [show ((l.length : Int) - 1).toNat = l.length - 1 by omega]
        exact maskU hu hx
    · refine Ct_intro Try.func134 rfl rfl rfl rfl rfl (fun E hn hb => ?_)
      repeat refine nx ?_
      refine rt2 [] (congrArg (fun x => lv (.bool x)) ?_) trivial
      have : ¬ 0 ≤ u ∨ ¬ u ≤ 7 := by omega
      rcases this with h | h
      · rw [decide_eq_false h]; rfl
      · rw [decide_eq_false h]; cases decide (0 ≤ u) <;> rfl
end Go.Proofs.Ythoaneleeabadaa

namespace Go.Proofs.Ythoaneleeabadaa
set_option linter.unusedSimpArgs false
set_option linter.unusedVariables false
open Go.Sx

set_option maxRecDepth 10000

/-- The bit string of contents: the unused bits, the bytes; whether it is one. -/
def parS (l : List Int) : Int × List Int × Bool := match l with
  | [] => (0, [], false)
  | u :: m => if rightS u m = true then (u, m, true) else (0, [], false)
theorem bparse_ok (l : List Int) (hl : l.length ≤ 1000000) (hw : WfB l) : Ct Try.prog 129 [B8 l] [] (.tup [bitA (parS l).1 (parS l).2.1, lv (.int .i64 (cond (parS l).2.2 0 6))]) [] [] := by
  cases l with
  | nil =>
    refine Ct_intro Try.func129 rfl rfl rfl rfl rfl (fun E hn hb => ?_)
    repeat refine nx ?_
    refine rtU [] (hu := ?_)
    exact ⟨⟨.inl rfl, .inr ⟨rfl, .inl ⟨_, rfl⟩⟩, trivial⟩, .inl rfl, trivial⟩
  | cons u m =>
    have hr := bright_ok u m (by simp at hl; omega) (fun x hx => hw x (List.mem_cons_of_mem _ hx))
    have hcl := clone_ok m (by simp at hl; omega)
    have hu := hw u (List.mem_cons_self ..)
    unfold parS
    dsimp only
    by_cases hrs : rightS u m = true
    · rw [if_pos hrs]
      rw [hrs] at hr
      refine Ct_intro Try.func129 rfl rfl rfl rfl rfl (fun E hn hb => ?_)
      repeat refine nx ?_
      exact rt1 []
    · rw [if_neg hrs]
      rw [Bool.not_eq_true] at hrs
      rw [hrs] at hr
      refine Ct_intro Try.func129 rfl rfl rfl rfl rfl (fun E hn hb => ?_)
      repeat refine nx ?_
      refine rtU [] (hu := ?_)
      exact ⟨⟨.inl rfl, .inr ⟨rfl, .inl ⟨_, rfl⟩⟩, trivial⟩, .inl rfl, trivial⟩
/-- The next bit string: the unused bits, the bytes, the place behind it, the error. -/
def bitR (l : List Int) (p : Nat) : Int × List Int × Nat × Int :=
  let r := openP l p (ofT 3)
  if r.2.2 = 0 then (let s := parS r.1; if s.2.2 = true then (s.1, s.2.1, r.2.1, 0) else (0, [], p, 6)) else (0, [], p, r.2.2)
theorem parS_no {l : List Int} (h : ¬ (parS l).2.2 = true) : parS l = (0, [], false) := by
  unfold parS at h ⊢
  cases l with
  | nil => rfl
  | cons u m =>
    dsimp only at h ⊢
    by_cases hr : rightS u m = true
    · rw [if_pos hr] at h; exact absurd rfl h
    · rw [if_neg hr]
set_option maxHeartbeats 4000000 in
theorem bread0_ok (l : List Int) (p : Nat) (hp : p ≤ l.length) (hl : l.length ≤ 1000000) (hw : WfB l) : Ct Try.prog 128 [.c (.ptr 0 0), lv (.int .i64 3), .c (.fn (.func 129) [] [])] [curB l p] (.tup [bitA (bitR l p).1 (bitR l p).2.1, lv (.int .i64 (bitR l p).2.2.2)]) [curB l (bitR l p).2.2.1] [] := by
  have hat := at_ok l p
  have hho := headof_ok 3
  have hop := open_ok l p (ofT 3) hp hl hw
  have hoe := open_err l p (ofT 3) hp hl hw
  have hle := openP_le l p (ofT 3) hp
  have hmem := openP_mem l p (ofT 3)
  unfold bitR
  generalize openP l p (ofT 3) = X at *
  obtain ⟨x, q, e⟩ := X
  dsimp only at *
  by_cases he : e = 0
  · subst he
    have hop := hop rfl
    rw [if_pos rfl]
    have hre := rest_ok x 0 (Nat.zero_le _) (by omega)
    rw [List.drop_zero] at hre
    have hpa := bparse_ok x (by omega) (fun y hy => hw y (hmem.2 y hy))
    have hbk := back_ok l q p hle.1 (by omega)
    by_cases hs : (parS x).2.2 = true
    · rw [if_pos hs]
      rw [hs] at hpa
      dsimp only
      generalize parS x = Y at *
      obtain ⟨u, m, b⟩ := Y
      dsimp only at *
      change Ct Try.prog 129 [B8 x] [] (.tup [bitA u m, lv (.int .i64 0)]) [] [] at hpa
      refine Ct_intro Try.func128 rfl rfl rfl rfl rfl (fun E hn hb => ?_)
      repeat refine nx ?_
      exact rt1 []
    · rw [if_neg hs]
      rw [parS_no hs] at hpa
      change Ct Try.prog 129 [B8 x] [] (.tup [bitA 0 [], lv (.int .i64 6)]) [] [] at hpa
      refine Ct_intro Try.func128 rfl rfl rfl rfl rfl (fun E hn hb => ?_)
      repeat refine nx ?_
      refine rtU [] (hu := ?_)
      exact ⟨⟨.inl rfl, .inr ⟨rfl, .inl ⟨_, rfl⟩⟩, trivial⟩, .inl rfl, trivial⟩
  · have hoe := hoe he
    rw [if_neg he]
    refine Ct_intro Try.func128 rfl rfl rfl rfl rfl (fun E hn hb => ?_)
    repeat refine nx ?_
    refine rtU [] (hu := ?_)
    exact ⟨⟨.inl rfl, .inr ⟨rfl, .inl ⟨_, rfl⟩⟩, trivial⟩, .inl rfl, trivial⟩
theorem bread_ok (l : List Int) (p : Nat) (hp : p ≤ l.length) (hl : l.length ≤ 1000000) (hw : WfB l) : Ct Try.prog 110 [.c (.ptr 0 0)] [curB l p] (.tup [bitA (bitR l p).1 (bitR l p).2.1, lv (.int .i64 (bitR l p).2.2.2)]) [curB l (bitR l p).2.2.1] [] := by
  have h := bread0_ok l p hp hl hw
  refine Ct_intro Try.func110 rfl rfl rfl rfl rfl (fun E hn hb => ?_)
  repeat refine nx ?_
  exact rt1 []
end Go.Proofs.Ythoaneleeabadaa

namespace Go.Proofs.Ythoaneleeabadaa
set_option linter.unusedSimpArgs false
set_option linter.unusedVariables false
open Go.Sx

set_option maxRecDepth 10000

theorem inR_of {n : Int} (h : 0 ≤ n ∧ n ≤ 2147483647) : inR n = true := by simp [inR]; omega
theorem spl_right {n : Int} (h : 0 ≤ n ∧ n ≤ 2147483647) : rightO (splA n) = true := by
  unfold splA
  by_cases c : n < 80
  · rw [if_pos c, rightO_cons, if_neg (by simp)]
    have h1 : ([n / 40, n % 40] : List Int).all inR = true := by
      simp only [List.all_cons, List.all_nil, Bool.and_true, Bool.and_eq_true]
      exact ⟨inR_of (by omega), inR_of (by omega)⟩
    rw [if_neg (by rw [h1]; simp), if_pos (by omega)]
    simp; omega
  · rw [if_neg c, rightO_cons, if_neg (by simp)]
    have h1 : ([2, n - 80] : List Int).all inR = true := by
      simp only [List.all_cons, List.all_nil, Bool.and_true, Bool.and_eq_true]
      exact ⟨inR_of (by omega), inR_of (by omega)⟩
    rw [if_neg (by rw [h1]; simp), if_neg (by omega), if_pos rfl]
    simp; omega
theorem right_snoc {o : List Int} {n : Int} (ho : rightO o = true) (hl : o.length ≠ 32) (h : 0 ≤ n ∧ n ≤ 2147483647) : rightO (o ++ [n]) = true := by
  match o, ho with
  | a :: b :: t, ho =>
    rw [List.cons_append, List.cons_append, rightO_cons]
    rw [rightO_cons] at ho
    by_cases c1 : 30 < t.length
    · rw [if_pos c1] at ho; cases ho
    · rw [if_neg c1] at ho
      by_cases c2 : (a :: b :: t).all inR = false
      · rw [if_pos c2] at ho; cases ho
      · rw [if_neg c2] at ho
        rw [if_neg (by simp at hl ⊢; omega)]
        have h1 : (a :: b :: (t ++ [n])).all inR = true := by
          rw [Bool.not_eq_false] at c2
          rw [← List.cons_append, ← List.cons_append, List.all_append, c2]
          simp [inR_of h]
        rw [if_neg (by rw [h1]; simp)]
        exact ho
theorem prA_right (l : List Int) (hw : WfB l) : ∀ (k p : Nat) (o : List Int), l.length - p < k → (rightO o = true ∨ (o = [] ∧ p < l.length)) → (prA k l p o).2 = 0 → rightO (prA k l p o).1 = true
  | 0, p, o, h, _, _ => by omega
  | k + 1, p, o, h, ho, he => by
    unfold prA at he ⊢
    by_cases hp : p < l.length
    · rw [if_pos hp] at he ⊢
      dsimp only at he ⊢
      have hn := (nxA_le (l.drop p) p 0 true).2.2 (by rw [drop_at l p hp]; simp)
      have hr := nxA_rng (l.drop p) p 0 true (by omega) (fun x hx => hw x (List.mem_of_mem_drop hx))
      split at he
      · rename_i h1
        rw [if_pos h1]
        split at he
        · simp at he
        · rename_i h2
          rw [if_neg h2]
          refine prA_right l hw k _ _ (by omega) (.inl ?_) he
          rcases ho with ho | ⟨rfl, _⟩
          · have : ¬ o.length = 0 := by
              intro h; rw [List.eq_nil_of_length_eq_zero h] at ho; cases ho
            rw [if_neg this]
            exact right_snoc ho h2 hr
          · rw [if_pos (by rfl), List.nil_append]
            exact spl_right hr
      · rename_i h1
        exact absurd he h1
    · rw [if_neg hp]
      rcases ho with ho | ⟨_, h⟩
      · exact ho
      · exact absurd h hp
theorem oidP_right (l : List Int) (hw : WfB l) (he : (oidP l).2 = 0) : rightO (oidP l).1 = true := by
  unfold oidP at he ⊢
  by_cases h0 : l = []
  · rw [if_pos h0] at he; simp at he
  · rw [if_neg h0] at he ⊢
    have : 0 < l.length := by
      cases l with
      | nil => exact absurd rfl h0
      | cons => simp
    exact prA_right l hw _ _ _ (by omega) (.inr ⟨rfl, this⟩) he
/-- Is it an algorithm? -/
def rightG (o m : List Int) : Bool := rightO o && (decide ((wholesP m 0).2 = 0) && decide ((wholesP m 0).1.length < 2))
theorem algP_right (x : List Int) (p : Nat) (hp : p ≤ x.length) (hw : WfB x) (he : (algP x p).2.2.1 = 0) : rightG (algP x p).1 (algP x p).2.1 = true := by
  have hle := oidR_le x p hp
  have hor : (oidR x p).2.2 = 0 → rightO (oidR x p).1 = true := by
    intro h
    have hmem := openP_mem x p (ofT 6)
    unfold oidR at h ⊢
    dsimp only at h ⊢
    split at h
    · rename_i h1
      rw [if_pos h1]
      split at h
      · rename_i h2
        rw [if_pos h2]
        exact oidP_right _ (fun y hy => hw y (hmem.2 y hy)) h2
      · rename_i h2; exact absurd h h2
    · rename_i h1; exact absurd h h1
  unfold algP at he ⊢
  dsimp only at he ⊢
  generalize oidR x p = O at *
  obtain ⟨o, q, e⟩ := O
  dsimp only at *
  by_cases h1 : e = 0
  · subst h1
    have ho := hor rfl
    rw [if_pos rfl] at he ⊢
    by_cases h2 : (parP x q).2.1 = 0
    · rw [if_pos h2]
      dsimp only
      unfold rightG
      rw [ho, Bool.true_and]
      unfold parP at h2 ⊢
      by_cases h3 : q = x.length
      · rw [if_pos h3]; rfl
      · rw [if_neg h3] at h2 ⊢
        dsimp only at h2 ⊢
        by_cases h4 : (readP x q).2.2 = 0
        · rw [if_pos h4] at h2 ⊢
          by_cases h5 : (x.length : Int) - ((readP x q).2.1 : Int) < (readP x q).1.2
          · rw [if_pos h5] at h2; simp at h2
          · rw [if_neg h5] at h2 ⊢
            by_cases h6 : (readP x q).1.2 < (x.length : Int) - ((readP x q).2.1 : Int)
            · rw [if_pos h6] at h2; simp at h2
            · rw [if_neg h6]
              rw [wholes_one x q (by omega) h4 (by omega)]
              rfl
        · rw [if_neg h4] at h2; exact absurd h2 h4
    · rw [if_neg h2] at he; exact absurd he h2
  · rw [if_neg h1] at he; exact absurd he h1
theorem algR_right (l : List Int) (p : Nat) (hw : WfB l) (he : (algR l p).2.2.1 = 0) : rightG (algR l p).1 (algR l p).2.1 = true := by
  have hmem := openP_mem l p (ofT 16)
  have ha := algP_right (openP l p (ofT 16)).1 0 (Nat.zero_le _) (fun y hy => hw y (hmem.2 y hy))
  unfold algR at he ⊢
  dsimp only at he ⊢
  split at he
  · rename_i h1
    rw [if_pos h1]
    split at he
    · rename_i h2
      rw [if_pos h2]
      exact ha h2
    · rename_i h2; exact absurd he h2
  · rename_i h1; exact absurd he h1
set_option maxHeartbeats 4000000 in
theorem rightalg_ok (o m : List Int) (ho : o.length ≤ 1000000) (hm : m.length ≤ 100000) (hw : WfB m) : Ct Try.prog 88 [algA o m] [] (lv (.bool (rightG o m))) [] [] := by
  have hr := right_ok o ho
  have hcn := curnew_ok m (by omega)
  have hwh := wholes_ok m 0 (Nat.zero_le _) hm hw
  unfold rightG
  generalize wholesP m 0 = W at *
  obtain ⟨rs, e⟩ := W
  dsimp only at *
  cases hrr : rightO o with
  | false =>
    rw [hrr] at hr
    refine Ct_intro Try.func88 rfl rfl rfl rfl rfl (fun E hn hb => ?_)
    repeat refine nx ?_
    exact rt1 []
  | true =>
    rw [hrr] at hr
    rw [Bool.true_and]
    by_cases he : e = 0
    · subst he
      rw [if_pos rfl] at hwh
      refine Ct_intro Try.func88 rfl rfl rfl rfl rfl (fun E hn hb => ?_)
      repeat refine nx ?_
      refine rt2 [] (congrArg (fun x => lv (.bool x)) ?_) trivial
      simp; omega
    · rw [if_neg he] at hwh
      rw [decide_eq_false he]
      refine Ct_intro Try.func88 rfl rfl rfl rfl rfl (fun E hn hb => ?_)
      repeat refine nx ?_
      refine rt2 [] (congrArg (fun x => lv (.bool x)) ?_) trivial
      simp [he]
end Go.Proofs.Ythoaneleeabadaa

namespace Go.Proofs.Ythoaneleeabadaa
set_option linter.unusedSimpArgs false
set_option linter.unusedVariables false
open Go.Sx

set_option maxRecDepth 10000

abbrev pubA (o m n : List Int) : Av := .agg [.lf (.ints .i64 o), .lf (.ints .u8 m), .lf (.ints .u8 n)]
def rightK (o m n : List Int) : Bool := rightG o m && (decide (1 ≤ n.length) && decide (n.length ≤ 64))
/-- The key that is all that is left: oid, parameters, name, the error, where the cursor stands. -/
def pubP (x : List Int) : (List Int × List Int × List Int) × Int × Nat :=
  let a := algR x 0
  if a.2.2.1 = 0 then
    (let s := bitR x a.2.2.2
     if s.2.2.2 = 0 then
      (if s.2.2.1 < x.length then (([], [], []), 7, s.2.2.1)
       else if s.1 = 0 ∧ (1 ≤ s.2.1.length ∧ s.2.1.length ≤ 64) then ((a.1, a.2.1, s.2.1), 0, s.2.2.1) else (([], [], []), 6, s.2.2.1))
     else (([], [], []), s.2.2.2, s.2.2.1))
  else (([], [], []), a.2.2.1, a.2.2.2)
/-- The next key, the error, the place behind it. -/
def pubR (l : List Int) (p : Nat) : (List Int × List Int × List Int) × Int × Nat :=
  let r := openP l p (ofT 16)
  if r.2.2 = 0 then (let a := pubP r.1; if a.2.1 = 0 then (a.1, 0, r.2.1) else (([], [], []), a.2.1, p)) else (([], [], []), r.2.2, p)
theorem algR_le (l : List Int) (p : Nat) (hp : p ≤ l.length) : p ≤ (algR l p).2.2.2 ∧ (algR l p).2.2.2 ≤ l.length := by
  have h := openP_le l p (ofT 16) hp
  unfold algR
  dsimp only
  split
  · split
    · exact h
    · exact ⟨Nat.le_refl _, hp⟩
  · exact ⟨Nat.le_refl _, hp⟩
theorem bitR_le (l : List Int) (p : Nat) (hp : p ≤ l.length) : p ≤ (bitR l p).2.2.1 ∧ (bitR l p).2.2.1 ≤ l.length := by
  have h := openP_le l p (ofT 3) hp
  unfold bitR
  dsimp only
  split
  · split
    · exact h
    · exact ⟨Nat.le_refl _, hp⟩
  · exact ⟨Nat.le_refl _, hp⟩
theorem parP_len (x : List Int) (p : Nat) : (parP x p).1.length ≤ x.length ∧ ∀ y ∈ (parP x p).1, y ∈ x := by
  unfold parP
  split
  · exact ⟨by simp, fun y h => by cases h⟩
  · dsimp only
    split
    · split
      · exact ⟨by simp, fun y h => by cases h⟩
      · split
        · exact ⟨by simp, fun y h => by cases h⟩
        · exact ⟨by simp, fun y h => List.mem_of_mem_drop h⟩
    · exact ⟨by simp, fun y h => by cases h⟩
theorem algR_len (l : List Int) (p : Nat) : (algR l p).2.1.length ≤ l.length ∧ ∀ y ∈ (algR l p).2.1, y ∈ l := by
  have hm := openP_mem l p (ofT 16)
  unfold algR algP
  dsimp only
  split
  · split
    · split
      · split
        · have := parP_len (openP l p (ofT 16)).1 (oidR (openP l p (ofT 16)).1 0).2.1
          exact ⟨Nat.le_trans this.1 hm.1, fun y h => hm.2 y (this.2 y h)⟩
        · exact ⟨by simp, fun y h => by cases h⟩
      · exact ⟨by simp, fun y h => by cases h⟩
    · exact ⟨by simp, fun y h => by cases h⟩
  · exact ⟨by simp, fun y h => by cases h⟩
theorem rightO_len {o : List Int} (h : rightO o = true) : o.length ≤ 32 := by
  match o, h with
  | a :: b :: t, h =>
    rw [rightO_cons] at h
    by_cases c1 : 30 < t.length
    · rw [if_pos c1] at h; cases h
    · simp; omega
theorem rightpub_ok (o m n : List Int) (ho : o.length ≤ 1000000) (hm : m.length ≤ 100000) (hn' : n.length ≤ 1000000) (hw : WfB m) : Ct Try.prog 92 [pubA o m n] [] (lv (.bool (rightK o m n))) [] [] := by
  have h := rightalg_ok o m ho hm hw
  unfold rightK
  generalize rightG o m = G at *
  cases G
  all_goals
    refine Ct_intro Try.func92 rfl rfl rfl rfl rfl (fun E hn hb => ?_)
    repeat refine nx ?_
    refine rt2 [] (congrArg (fun x => lv (.bool x)) ?_) trivial
    by_cases h1 : 1 ≤ n.length <;> by_cases h2 : n.length ≤ 64 <;> simp [h1, h2] <;> omega
theorem rightK_of {o m n : List Int} (h : rightG o m = true) : rightK o m n = decide (1 ≤ n.length ∧ n.length ≤ 64) := by
  unfold rightK
  rw [h, Bool.true_and, Bool.decide_and]
theorem bitR_len (l : List Int) (p : Nat) : (bitR l p).2.1.length ≤ l.length := by
  have hm := openP_mem l p (ofT 3)
  have hp : (parS (openP l p (ofT 3)).1).2.1.length ≤ (openP l p (ofT 3)).1.length := by
    unfold parS
    cases (openP l p (ofT 3)).1 with
    | nil => simp
    | cons u m => dsimp only; split <;> simp
  unfold bitR
  dsimp only
  split
  · split
    · exact Nat.le_trans hp hm.1
    · simp
  · simp
set_option maxHeartbeats 8000000 in
theorem public_ok (x : List Int) (hl : x.length ≤ 100000) (hw : WfB x) : Ct Try.prog 79 [rdA] [curB x 0] (.tup [pubA (pubP x).1.1 (pubP x).1.2.1 (pubP x).1.2.2, lv (.int .i64 (pubP x).2.1)]) [curB x (pubP x).2.2] [] := by
  have hra := readalg_ok x 0 (Nat.zero_le _) (by omega) hw
  have hle := algR_le x 0 (Nat.zero_le _)
  have hlen := algR_len x 0
  have hrt := algR_right x 0 hw
  unfold pubP
  generalize algR x 0 = A at *
  obtain ⟨o, m, e, q⟩ := A
  dsimp only at *
  by_cases he : e = 0
  · subst he
    have hrt := hrt rfl
    rw [if_pos rfl]
    have hbr := bread_ok x q hle.2 (by omega) hw
    have hble := bitR_le x q hle.2
    have hblen := bitR_len x q
    have ho32 : o.length ≤ 32 := rightO_len (by unfold rightG at hrt; simp at hrt; exact hrt.1)
    generalize bitR x q = B at *
    obtain ⟨u, n, q2, f⟩ := B
    dsimp only at *
    by_cases hf : f = 0
    · subst hf
      rw [if_pos rfl]
      have hlf := left_ok x q2 hble.2 (by omega)
      have hrk := rightpub_ok o m n (by omega) (by omega) (by omega) (fun y hy => hw y (hlen.2 y hy))
      rw [rightK_of hrt] at hrk
      by_cases h1 : q2 < x.length
      · rw [if_pos h1]
        refine Ct_intro Try.func79 rfl rfl rfl rfl rfl (fun E hn hb => ?_)
        repeat refine nx ?_
        refine rtU [] (hu := ?_)
        exact ⟨⟨.inr ⟨rfl, .inl ⟨_, rfl⟩⟩, .inr ⟨rfl, .inl ⟨_, rfl⟩⟩, .inr ⟨rfl, .inl ⟨_, rfl⟩⟩, trivial⟩, .inl rfl, trivial⟩
      · rw [if_neg h1]
        by_cases h2 : u = 0 ∧ (1 ≤ n.length ∧ n.length ≤ 64)
        · rw [if_pos h2]
          rw [decide_eq_true h2.2] at hrk
          obtain ⟨rfl, h3⟩ := h2
          refine Ct_intro Try.func79 rfl rfl rfl rfl rfl (fun E hn hb => ?_)
          repeat refine nx ?_
          exact rt1 []
        · rw [if_neg h2]
          by_cases h3 : u = 0
          · subst h3
            rw [decide_eq_false (fun h => h2 ⟨rfl, h⟩)] at hrk
            refine Ct_intro Try.func79 rfl rfl rfl rfl rfl (fun E hn hb => ?_)
            repeat refine nx ?_
            refine rtU [] (hu := ?_)
            exact ⟨⟨.inr ⟨rfl, .inl ⟨_, rfl⟩⟩, .inr ⟨rfl, .inl ⟨_, rfl⟩⟩, .inr ⟨rfl, .inl ⟨_, rfl⟩⟩, trivial⟩, .inl rfl, trivial⟩
          · refine Ct_intro Try.func79 rfl rfl rfl rfl rfl (fun E hn hb => ?_)
            repeat refine nx ?_
            refine rtU [] (hu := ?_)
            exact ⟨⟨.inr ⟨rfl, .inl ⟨_, rfl⟩⟩, .inr ⟨rfl, .inl ⟨_, rfl⟩⟩, .inr ⟨rfl, .inl ⟨_, rfl⟩⟩, trivial⟩, .inl rfl, trivial⟩
    · rw [if_neg hf]
      refine Ct_intro Try.func79 rfl rfl rfl rfl rfl (fun E hn hb => ?_)
      repeat refine nx ?_
      refine rtU [] (hu := ?_)
      exact ⟨⟨.inr ⟨rfl, .inl ⟨_, rfl⟩⟩, .inr ⟨rfl, .inl ⟨_, rfl⟩⟩, .inr ⟨rfl, .inl ⟨_, rfl⟩⟩, trivial⟩, .inl rfl, trivial⟩
  · rw [if_neg he]
    refine Ct_intro Try.func79 rfl rfl rfl rfl rfl (fun E hn hb => ?_)
    repeat refine nx ?_
    refine rtU [] (hu := ?_)
    exact ⟨⟨.inr ⟨rfl, .inl ⟨_, rfl⟩⟩, .inr ⟨rfl, .inl ⟨_, rfl⟩⟩, .inr ⟨rfl, .inl ⟨_, rfl⟩⟩, trivial⟩, .inl rfl, trivial⟩
theorem pubP_err (x : List Int) (h : ¬ (pubP x).2.1 = 0) : (pubP x).1 = ([], [], []) := by
  unfold pubP at h ⊢
  dsimp only at h ⊢
  split
  · rename_i h1
    rw [if_pos h1] at h
    split
    · rename_i h2
      rw [if_pos h2] at h
      split
      · rfl
      · rename_i h3
        rw [if_neg h3] at h
        split
        · rename_i h4; rw [if_pos h4] at h; exact absurd rfl h
        · rfl
    · rfl
  · rfl
set_option maxHeartbeats 4000000 in
theorem readpub_ok (l : List Int) (p : Nat) (hp : p ≤ l.length) (hl : l.length ≤ 100000) (hw : WfB l) : Ct Try.prog 40 [.c (.ptr 0 0)] [curB l p] (.tup [pubA (pubR l p).1.1 (pubR l p).1.2.1 (pubR l p).1.2.2, lv (.int .i64 (pubR l p).2.1)]) [curB l (pubR l p).2.2] [] := by
  have hat := at_ok l p
  have hok := opened_ok l p hp (by omega) hw
  have her := opened_err l p hp (by omega) hw
  have hle := openP_le l p (ofT 16) hp
  have hmem := openP_mem l p (ofT 16)
  unfold pubR
  generalize openP l p (ofT 16) = X at *
  obtain ⟨x, q, e⟩ := X
  dsimp only at *
  by_cases he : e = 0
  · subst he
    rw [if_pos rfl]
    have hok := hok rfl
    have hal := public_ok x (by omega) (fun y hy => hw y (hmem.2 y hy))
    have hnil := pubP_err x
    have hbk := back_ok l q p hle.1 (by omega)
    generalize pubP x = A at *
    obtain ⟨⟨o, m, n⟩, f, q2⟩ := A
    dsimp only at *
    by_cases hf : f = 0
    · subst hf
      rw [if_pos rfl]
      refine Ct_intro Try.func40 rfl rfl rfl rfl rfl (fun E hn hb => ?_)
      repeat refine nx ?_
      exact rt1 []
    · have hn2 := hnil hf
      simp only [Prod.mk.injEq] at hn2
      obtain ⟨rfl, rfl, rfl⟩ := hn2
      rw [if_neg hf]
      refine Ct_intro Try.func40 rfl rfl rfl rfl rfl (fun E hn hb => ?_)
      repeat refine nx ?_
      exact rt1 []
  · rw [if_neg he]
    have her := her he
    refine Ct_intro Try.func40 rfl rfl rfl rfl rfl (fun E hn hb => ?_)
    repeat refine nx ?_
    refine rtU [] (hu := ?_)
    exact ⟨⟨.inr ⟨rfl, .inl ⟨_, rfl⟩⟩, .inr ⟨rfl, .inl ⟨_, rfl⟩⟩, .inr ⟨rfl, .inl ⟨_, rfl⟩⟩, trivial⟩, .inl rfl, trivial⟩
end Go.Proofs.Ythoaneleeabadaa

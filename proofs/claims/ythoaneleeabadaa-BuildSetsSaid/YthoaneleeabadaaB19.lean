/-
  Build: one whole alone, opened. The conditions: a right tag, contents that a machine can hold.
-/
import Derived.Test.YthoaneleeabadaaB13
import Derived.Test.YthoaneleeabadaaD8
namespace Go.Proofs.Ythoaneleeabadaa
set_option linter.unusedSimpArgs false
set_option linter.unusedVariables false
open Go.Sx

theorem cmpL_trans : ∀ a b c : List Int, cmpL a b ≤ 0 → cmpL b c ≤ 0 → cmpL a c ≤ 0
  | [], [], _, _, h => h
  | [], _ :: _, [], _, _ => by simp [cmpL]
  | [], _ :: _, _ :: _, _, _ => by simp [cmpL]
  | _ :: _, [], _, h, _ => by simp [cmpL] at h
  | _ :: _, _ :: _, [], _, h => by simp [cmpL] at h
  | x :: a, y :: b, z :: c, h1, h2 => by
    have ih := cmpL_trans a b c
    simp only [cmpL] at *
    (repeat' split at h1) <;> (repeat' split at h2) <;> (repeat' split) <;> first | omega | exact ih h1 h2 | (simp at h1; done) | (simp at h2; done)
/-- In order. -/
abbrev OrdB (rs : List (List Int)) : Prop := rs.Pairwise fun a b => cmpL a b ≤ 0
theorem ord_get {rs : List (List Int)} (h : OrdB rs) {i j : Nat} (hij : i < j) (hj : j < rs.length) : cmpL (rs.getD i []) (rs.getD j []) ≤ 0 := by
  rw [List.getD_eq_getElem?_getD, List.getD_eq_getElem?_getD, List.getElem?_eq_getElem hj, List.getElem?_eq_getElem (by omega)]
  exact (List.pairwise_iff_getElem.1 h) i j (by omega) hj hij
theorem atO_spec (out : List (List Int)) (x : List Int) : ∀ n, atO out x n ≤ n ∧ (∀ j, atO out x n ≤ j → j < n → 0 < cmpL (out.getD j []) x) ∧ (atO out x n = 0 ∨ cmpL (out.getD (atO out x n - 1) []) x ≤ 0)
  | 0 => ⟨Nat.le_refl _, fun j _ h => absurd h (Nat.not_lt_zero _), .inl rfl⟩
  | n + 1 => by
    have ih := atO_spec out x n
    unfold atO
    split
    · rename_i h
      refine ⟨by omega, fun j h1 h2 => ?_, ih.2.2⟩
      by_cases hj : j < n
      · exact ih.2.1 j h1 hj
      · obtain rfl : j = n := by omega
        exact h
    · rename_i h
      exact ⟨Nat.le_refl _, fun j h1 h2 => by omega, .inr (by simpa using h)⟩
theorem insO_ord {out : List (List Int)} (x : List Int) (h : OrdB out) : OrdB (insO out x) := by
  have hs := atO_spec out x out.length
  unfold insO
  generalize atO out x out.length = k at *
  refine List.pairwise_append.2 ⟨h.sublist (List.take_sublist _ _), List.pairwise_cons.2 ⟨fun b hb => ?_, h.sublist (List.drop_sublist _ _)⟩, fun a ha b hb => ?_⟩
  · obtain ⟨i, hi, rfl⟩ := List.mem_iff_getElem.1 hb
    rw [List.getElem_drop]
    simp at hi
    have h1 := hs.2.1 (k + i) (by omega) (by omega)
    rw [List.getD_eq_getElem?_getD, List.getElem?_eq_getElem (by omega)] at h1
    have := (cmpL_anti x (out[k + i]'(by omega))).2 h1
    omega
  · obtain ⟨i, hi, rfl⟩ := List.mem_iff_getElem.1 ha
    simp at hi
    rw [List.getElem_take]
    have hix : cmpL (out[i]'(by omega)) x ≤ 0 := by
      rcases hs.2.2 with h0 | h0
      · omega
      · by_cases hik : i = k - 1
        · subst hik
          rw [List.getD_eq_getElem?_getD, List.getElem?_eq_getElem (by omega)] at h0
          exact h0
        · have := ord_get h (i := i) (j := k - 1) (by omega) (by omega)
          have t := cmpL_trans _ _ _ this h0
          rw [List.getD_eq_getElem?_getD, List.getElem?_eq_getElem (by omega)] at t
          exact t
    rcases List.mem_cons.1 hb with rfl | hb
    · exact hix
    · obtain ⟨j, hj, rfl⟩ := List.mem_iff_getElem.1 hb
      simp at hj
      rw [List.getElem_drop]
      exact (List.pairwise_iff_getElem.1 h) i (k + j) (by omega) (by omega) (by omega)
theorem insO_same (out : List (List Int)) (x : List Int) : (insO out x).Perm (x :: out) := by
  unfold insO
  refine List.perm_middle.trans (List.Perm.cons x ?_)
  rw [List.take_append_drop]
theorem orderL_ord : ∀ (l out : List (List Int)), OrdB out → OrdB (orderL l out)
  | [], _, h => h
  | x :: l, out, h => orderL_ord l _ (insO_ord x h)
theorem orderL_same : ∀ (l out : List (List Int)), (orderL l out).Perm (l ++ out)
  | [], _ => List.Perm.refl _
  | x :: l, out => ((orderL_same l _).trans ((insO_same out x).append_left l)).trans List.perm_middle
/-- Two that are in order and have the same rows are one. -/
theorem ord_unique : ∀ {a b : List (List Int)}, OrdB a → OrdB b → a.Perm b → a = b
  | [], b, _, _, h => (List.nil_perm.1 h).symm
  | x :: a, [], _, _, h => absurd (List.perm_nil.1 h) (by simp)
  | x :: a, y :: b, ha, hb, h => by
    have hxy : x = y := by
      refine (cmpL_eq x y).1 ?_
      have h1 : cmpL x y ≤ 0 := by
        rcases List.mem_cons.1 (h.mem_iff.2 (List.mem_cons_self (a := y) (l := b))) with e | e
        · rw [e]; exact Int.le_of_eq ((cmpL_eq x x).2 rfl)
        · exact (List.pairwise_cons.1 ha).1 y e
      have h2 : cmpL y x ≤ 0 := by
        rcases List.mem_cons.1 (h.mem_iff.1 (List.mem_cons_self (a := x) (l := a))) with e | e
        · rw [e]; exact Int.le_of_eq ((cmpL_eq y y).2 rfl)
        · exact (List.pairwise_cons.1 hb).1 x e
      have := cmpL_anti x y
      have := cmpL_anti y x
      omega
    subst hxy
    rw [ord_unique (List.pairwise_cons.1 ha).2 (List.pairwise_cons.1 hb).2 ((List.perm_cons x).1 h)]
/-- However the rows stood. -/
theorem orderL_rot (m : List (List Int)) (k : Nat) : orderL (m.drop k ++ m.take k) [] = orderL m [] := by
  refine ord_unique (orderL_ord _ _ List.Pairwise.nil) (orderL_ord _ _ List.Pairwise.nil) ?_
  refine (orderL_same _ _).trans (.trans ?_ (orderL_same _ _).symm)
  rw [List.append_nil, List.append_nil]
  exact List.perm_append_comm.trans (.of_eq (List.take_append_drop k m))
theorem sorted_of_ord {rs : List (List Int)} (h : OrdB rs) : ∀ n, n < rs.length ∨ n = 0 → sortedA rs n = true
  | 0, _ => rfl
  | n + 1, hn => by
    have h1 := ord_get h (i := n) (j := n + 1) (by omega) (by omega)
    have h2 := cmpL_anti (rs.getD (n + 1) []) (rs.getD n [])
    rw [sortedA, if_neg (by omega)]
    exact sorted_of_ord h n (by omega)
end Go.Proofs.Ythoaneleeabadaa

namespace Go.Proofs.Ythoaneleeabadaa
set_option linter.unusedSimpArgs false
set_option linter.unusedVariables false
open Go.Sx

theorem readP_at (a b c : List Int) (t : TagP) (h : rightT t = true) (hb : b.length ≤ 16777216) : readP (a ++ (wrapL t b ++ c)) a.length = ((t, (b.length : Int)), a.length + (tgL t).length + (lenL b.length).length, 0) := by
  have e0 : wrapL t b ++ c = tgL t ++ (lenL b.length ++ (b ++ c)) := by simp [wrapL]
  have e1 := tagP_at a (lenL b.length ++ (b ++ c)) t h
  have e2 := lenP_at (a ++ tgL t) (b ++ c) b.length hb (.inr trivial)
  rw [e0]
  unfold readP rawF
  rw [e1]
  dsimp only
  rw [if_pos rfl, ← List.append_assoc, ← List.length_append, e2]
  rfl
theorem one_at (a b c : List Int) (t : TagP) (h : rightT t = true) (hb : b.length ≤ 16777216) : oneP (a ++ (wrapL t b ++ c)) a.length = (wrapL t b, t, b, 0, a.length + (wrapL t b).length) := by
  have hr := readP_at a b c t h hb
  have hw : (wrapL t b).length = (tgL t).length + (lenL b.length).length + b.length := by simp [wrapL]; omega
  have e3 : a ++ (wrapL t b ++ c) = (a ++ tgL t ++ lenL b.length) ++ (b ++ c) := by simp [wrapL]
  unfold oneP
  rw [hr]
  dsimp only
  rw [if_neg (by simp), if_neg (by simp; omega), Int.toNat_natCast]
  refine Prod.ext ?_ (Prod.ext rfl (Prod.ext ?_ (Prod.ext rfl ?_)))
  · dsimp only
    rw [List.drop_left, show a.length + (tgL t).length + (lenL b.length).length - a.length + b.length = (wrapL t b).length by omega, List.take_left]
  · dsimp only
    rw [e3, show a.length + (tgL t).length + (lenL b.length).length = (a ++ tgL t ++ lenL b.length).length by simp [Nat.add_assoc], List.drop_left, List.take_left]
  · dsimp only; omega
theorem wrap_pos (t : TagP) (b : List Int) (h : rightT t = true) (hb : b.length ≤ 16777216) : 0 < (wrapL t b).length := by
  have hr := readP_at [] b [] t h hb
  have ha := readP_adv ([] ++ (wrapL t b ++ [])) ([] : List Int).length (by rw [hr])
  rw [hr] at ha
  have hw : (wrapL t b).length = (tgL t).length + (lenL b.length).length + b.length := by simp [wrapL]; omega
  simp at ha
  omega
def IsWhole (r : List Int) : Prop := ∃ t b, rightT t = true ∧ b.length ≤ 16777216 ∧ r = wrapL t b
theorem wholesA_ws : ∀ (rs : List (List Int)) (a : List Int) (acc : List (List Int)) (n : Nat), (∀ r ∈ rs, IsWhole r) → rs.flatten.length < n → wholesA (a ++ rs.flatten) n a.length acc = (acc ++ rs, 0)
  | [], a, acc, n + 1, _, _ => by rw [wholesA, if_pos (by simp), List.append_nil]
  | r :: rs, a, acc, n + 1, h, hn => by
    obtain ⟨t, b, h1, h2, e⟩ := h r (List.mem_cons_self)
    have ho := one_at a b rs.flatten t h1 h2
    have hp := wrap_pos t b h1 h2
    rw [← e] at ho hp
    rw [List.flatten_cons] at hn ⊢
    simp only [List.length_append] at hn
    rw [wholesA, if_neg (by simp; omega), ho]
    dsimp only
    rw [if_neg (by simp), ← List.length_append, ← List.append_assoc]
    rw [wholesA_ws rs (a ++ r) (acc ++ [r]) n (fun x hx => h x (List.mem_cons_of_mem _ hx)) (by omega)]
    simp
theorem wholesP_ws (rs : List (List Int)) (h : ∀ r ∈ rs, IsWhole r) : wholesP rs.flatten 0 = (rs, 0) := by
  have := wholesA_ws rs [] [] (rs.flatten.length + 1) h (by omega)
  simpa [wholesP] using this
end Go.Proofs.Ythoaneleeabadaa

namespace Go.Proofs.Ythoaneleeabadaa
set_option linter.unusedSimpArgs false
set_option linter.unusedVariables false
open Go.Sx

set_option maxRecDepth 10000

/-- A sheet whose frame may be a set. -/
abbrev shF (s : Bool) (t : TagP) (b a : Cell) (e : Int) : Blk := .cells [i64c t.1, i64c t.2.1, .lf (.v (.bool t.2.2)), .lf (.v (.bool s)), b, a, i64c e]
theorem boffs_ok (s : Bool) (t : TagP) (l : List Int) (e : Int) : Ct Try.prog 50 [.c (.ptr 0 0)] [shF s t (.own 1 1 0 l.length) arC e, r8 l] (lv (.bool (bif false then true else e != 0))) [shF s t (.own 1 1 0 l.length) arC e, r8 l] [] := by
  refine Ct_intro Try.func50 rfl rfl rfl rfl rfl (fun E hn hb => ?_)
  repeat refine nx ?_
  exact rt1 []
theorem badds_ok (s : Bool) (t : TagP) (l x : List Int) (fr : List (List Leaf)) (e : Int) (hl : l.length + x.length ≤ 1000000) :
    CtM Try.prog 51 [.c (.ptr 0 0), B8 x] [shF s t (.own 1 1 0 l.length) (.lf (.recs 5 fr)) e, r8 l] (.tup []) [shF s t (.own 2 1 0 (l ++ x).length) (.lf (.recs 5 fr)) e, .gone] [r8 (l ++ x)] := by
  have e0 : l.take (0 + l.length) = l := by simp
  refine CtM_intro Try.func51 rfl rfl rfl rfl rfl (fun E hn hb => ?_)
  repeat refine nx ?_
  refine s_appendK 900 rfl rfl rfl rfl rfl (by rw [hn]; rfl) (elt_mk Try.underlying41 rfl rfl) rfl rfl rfl rfl ?_ (by simp) ⟨by omega, by decide⟩ ?_ ?_
  · trivial
  · rw [e0]
    repeat refine nx ?_
    rw [← List.length_append]
    exact N_endM [1] rfl (by trivial) ⟨rfl, ⟨.inr rfl, .inl rfl⟩, rfl, rfl⟩ hb rfl
  · rw [e0, List.drop_zero]
    repeat refine nx ?_
    rw [← List.length_append]
    exact N_endM [900] rfl (by trivial) ⟨rfl, ⟨.inr rfl, .inl rfl⟩, rfl, rfl⟩ hb rfl
/-- Many rows put. -/
theorem bputs_ok (s : Bool) (t : TagP) (l : List Int) (xs : List (List Int)) (h0 : 0 < xs.length) (hx : xs.length ≤ 1000000) (hl : l.length + xs.flatten.length ≤ 1000000) :
    CtM Try.prog 12 [.c (.ptr 0 0), rowsA xs] [shF s t (.own 1 1 0 l.length) arC 0, r8 l] (.tup []) [shF s t (.own 2 1 0 (l ++ xs.flatten).length) arC 0, .gone] [r8 (l ++ xs.flatten)] := by
  have h := boffs_ok s t l 0
  refine CtM_intro Try.func12 rfl rfl rfl rfl rfl (fun E hn hb => ?_)
  repeat refine nx ?_
  refine W_weaken (St.le_of (l := [(0, .c (.ptr 0 0)), (8, rowsA xs), (9, lv (.int .i64 ((recB xs).length : Int))), (10, lv (.int .i64 0))]) (h := [(0, shF s t (.own 1 1 0 l.length) arC 0), (1, r8 l)]) (by refine ⟨?_, ?_⟩ <;> (repeat' (first | exact trivial | exact rfl | refine ⟨?_, ?_⟩)) <;> first | exact rfl | (simp; done) | skip)) ?_
  refine W_loop (ι := Option {j : Nat // 1 ≤ j ∧ j ≤ xs.length}) (fun i => match i with
    | none => St.of [(0, .c (.ptr 0 0)), (8, rowsA xs), (9, lv (.int .i64 ((recB xs).length : Int))), (10, lv (.int .i64 0))] [(0, shF s t (.own 1 1 0 l.length) arC 0), (1, r8 l)]
    | some j => St.of [(0, .c (.ptr 0 0)), (8, rowsA xs), (9, lv (.int .i64 ((recB xs).length : Int))), (10, lv (.int .i64 (j.1 : Int)))] [(0, shF s t (.own 82 1 0 (l ++ (xs.take j.1).flatten).length) arC 0), (82, r8 (l ++ (xs.take j.1).flatten))]) (fun i => match i with | none => xs.length + 1 | some j => xs.length - j.1) (fun i => ?_) none
  have hlen : (recB xs).length = xs.length := by simp [recB]
  cases i with
  | none =>
    dsimp only
    have hf := flat_next xs 0 h0
    have ha := badds_ok s t l (xs.getD 0 []) [frame0] 0 (by have := congrArg List.length hf.1; rw [List.length_append] at this; have e : (xs.take 0).flatten.length = 0 := rfl; omega)
    have e1 : l ++ xs.getD 0 [] = l ++ (xs.take 1).flatten := by rw [hf.1]; rfl
    rw [e1] at ha
    repeat refine nx ?_
    refine s_callM [0, 1] ha rfl rfl (by rw [hn]; rfl) rfl rfl (by trivial) ⟨rfl, ⟨rfl, rfl⟩, (by simp [ordL]), rfl⟩ ?_
    repeat refine nx ?_
    refine N_round (some ⟨1, by omega, by omega⟩) (by dsimp only; omega) (St.le_of ⟨⟨rfl, rfl, rfl, rfl⟩, ⟨rfl, rfl⟩⟩)
  | some j =>
    obtain ⟨j, hj1, hj2⟩ := j
    dsimp only
    by_cases hj : j < xs.length
    · have hf := flat_next xs j hj
      have ha := badds_ok s t (l ++ (xs.take j).flatten) (xs.getD j []) [frame0] 0 (by have := congrArg List.length hf.1; rw [List.length_append] at this ⊢; omega)
      have e1 : (l ++ (xs.take j).flatten) ++ xs.getD j [] = l ++ (xs.take (j + 1)).flatten := by rw [hf.1, List.append_assoc]
      rw [e1] at ha
      refine W_sr (fun a w h => SR.mv 82 901 rfl rfl rfl rfl rfl h) ?_
      repeat refine nx ?_
      refine s_callM [0, 901] ha rfl rfl (by rw [hn]; rfl) rfl rfl (by trivial) ⟨rfl, ⟨rfl, rfl⟩, (by simp [ordL]), rfl⟩ ?_
      repeat refine nx ?_
      refine N_round (some ⟨j + 1, by omega, by omega⟩) (by dsimp only; omega) (St.le_of ⟨⟨rfl, rfl, rfl, rfl⟩, ⟨rfl, rfl⟩⟩)
    · obtain rfl : j = xs.length := by omega
      rw [List.take_length]
      repeat refine nx ?_
      exact N_retM [82] rfl (by trivial) ⟨rfl, ⟨.inr rfl, .inl rfl⟩, rfl, rfl⟩ hb rfl
end Go.Proofs.Ythoaneleeabadaa

namespace Go.Proofs.Ythoaneleeabadaa
set_option linter.unusedSimpArgs false
set_option linter.unusedVariables false
open Go.Sx

set_option maxRecDepth 10000

abbrev shE (s : Bool) (t : TagP) (l : List Int) (a : Leaf) (e : Int) : Blk := shF s t (.lf (.ints .u8 l)) (.lf a) e
abbrev shLs (s : Bool) (t : TagP) (l : List Int) (a : Leaf) (e : Int) : List Leaf := [.v (.int .i64 t.1), .v (.int .i64 t.2.1), .v (.bool t.2.2), .v (.bool s), .ints .u8 l, a, .v (.int .i64 e)]
theorem boffDs_ok (s : Bool) (t : TagP) (l : List Int) (a : Leaf) (e : Int) : Ct Try.prog 50 [.c (.lf (.obj (shLs s t l a e)))] [] (lv (.bool (bif false then true else e != 0))) [] [] := by
  refine Ct_intro Try.func50 rfl rfl rfl rfl rfl (fun E hn hb => ?_)
  repeat refine nx ?_
  exact rt1 []
theorem bwholes_ok (t : TagP) (l : List Int) (rs : List (List Int)) (hl : l.length ≤ 100000) (hw : WfB l) (hws : wholesP l 0 = (rs, 0)) (hr : rs.length ≤ 19) (hrb : RowsB rs) (hf : (isortL rs).flatten.length ≤ 1000000) :
    Ct Try.prog 53 [.c (.ptr 0 0)] [shE true t l arL 0] (.tup [B8 (wrapL (ofT 17) (isortL rs).flatten), lv (.int .i64 0)]) [shE true t l arL 0] [] := by
  have hcn := curnew_ok l (by omega)
  have hwh := wholes_ok l 0 (Nat.zero_le _) hl hw
  rw [hws] at hwh
  have hso := setOf_ok rs hr hrb hf
  dsimp only at hwh
  refine Ct_intro Try.func53 rfl rfl rfl rfl rfl (fun E hn hb => ?_)
  repeat refine nx ?_
  exact rt1 []
theorem bopens_ok (s : Bool) (t : TagP) : Ct Try.prog 52 [.c (.ptr 0 0), .agg [i64c t.1, i64c t.2.1, .lf (.v (.bool t.2.2)), .lf (.v (.bool s)), nilC]] [sh0] (.tup []) [shF s t (.own 1 1 0 ([] : List Int).length) arC 0] [r8 []] := by
  have h := boff0_ok
  refine Ct_intro Try.func52 rfl rfl rfl rfl rfl (fun E hn hb => ?_)
  repeat refine nx ?_
  refine N_sr (fun a w h => SR.cell_nil 0 4 900 rfl rfl rfl rfl rfl h) ?_
  exact rt1 [900]
theorem openset_ok : Ct Try.prog 15 [.c (.ptr 0 0)] [sh0] (.tup []) [shF true (ofT 17) (.own 1 1 0 ([] : List Int).length) arC 0] [r8 []] := by
  have h := bopens_ok true (ofT 17)
  have h2 := headof_ok 17
  refine Ct_intro Try.func15 rfl rfl rfl rfl rfl (fun E hn hb => ?_)
  repeat refine nx ?_
  exact rt1 [69]
theorem bshuts_ok (t : TagP) (l : List Int) (rs : List (List Int)) (hl : l.length ≤ 100000) (hw : WfB l) (hws : wholesP l 0 = (rs, 0)) (hr : rs.length ≤ 19) (hrb : RowsB rs) (hf : (isortL rs).flatten.length ≤ 900000) :
    Ct Try.prog 16 [.c (.ptr 0 0)] [shE true t l arL 0] (.tup []) [shC tag0 (.own 1 1 0 (wrapL (ofT 17) (isortL rs).flatten).length) (.lf (.recs 5 [])) 0] [r8 (wrapL (ofT 17) (isortL rs).flatten)] := by
  have h0 := boffDs_ok true t l arL 0
  have h1 := bwholes_ok t l rs hl hw hws hr hrb (by omega)
  have hwl := wrap_len (ofT 17) (isortL rs).flatten
  have h2 := badd_ok tag0 [] (wrapL (ofT 17) (isortL rs).flatten) [] 0 (by simp; omega)
  rw [List.nil_append] at h2
  generalize wrapL (ofT 17) (isortL rs).flatten = W at *
  refine Ct_intro Try.func16 rfl rfl rfl rfl rfl (fun E hn hb => ?_)
  repeat refine nx ?_
  refine WL_sr (fun a w h => SR.cell_nil 0 4 900 rfl rfl rfl rfl rfl h) ?_
  refine s_callM [0, 900] h2 rfl rfl (by rw [hn]; rfl) rfl rfl (by trivial) ⟨rfl, ⟨rfl, rfl⟩, (by simp [ordL]), rfl⟩ ?_
  repeat refine nx ?_
  exact rt1 [116]
end Go.Proofs.Ythoaneleeabadaa

namespace Go.Proofs.Ythoaneleeabadaa
set_option linter.unusedSimpArgs false
set_option linter.unusedVariables false
open Go.Sx

set_option maxRecDepth 10000

theorem alone_ok (t : TagP) (b : List Int) (h : rightT t = true) (hb : b.length ≤ 900000) (hw : WfB (wrapL t b)) : Ct Try.prog 32 [B8 (wrapL t b), tagA t] [] (.tup [.c (.ptr 0 0), lv (.int .i64 0)]) [] [curB b 0] := by
  have ha := openP_at [] b [] t h (by omega)
  rw [List.nil_append, List.append_nil, List.length_nil, Nat.zero_add] at ha
  have hwl := wrap_len t b
  have hcn := curnew_ok (wrapL t b) (by omega)
  have hop := open_ok (wrapL t b) 0 t (Nat.zero_le _) (by omega) hw (by rw [ha])
  rw [ha] at hop
  dsimp only at hop
  have hle := left_ok (wrapL t b) (wrapL t b).length (Nat.le_refl _) (by omega)
  generalize wrapL t b = W at *
  refine Ct_intro Try.func32 rfl rfl rfl rfl rfl (fun E hn hb => ?_)
  repeat refine nx ?_
  exact rt1 [78]
end Go.Proofs.Ythoaneleeabadaa

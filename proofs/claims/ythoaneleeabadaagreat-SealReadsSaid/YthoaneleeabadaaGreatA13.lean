/-
  Public keys that are read: the program's and the document's. The conditions: rows of bytes that a machine can hold.
-/
import Derived.Test.YthoaneleeabadaaGreatM1
import Derived.Test.YthoaneleeabadaaGreatA8
namespace Go.Proofs.YthoaneleeabadaaGreat
set_option linter.unusedSimpArgs false
set_option linter.unusedVariables false
open Go.Sx
set_option maxRecDepth 10000
theorem inR_of {n : Int} (h : 0 ≤ n ∧ n ≤ 2147483647) : inR n = true := by simp [inR]; omega
theorem spl_right {n : Int} (h : 0 ≤ n ∧ n ≤ 2147483647) : rightO (splA n) = true := by
 unfold splA
 by_cases c : n < 80
 · rw [if_pos c, rightO_cons, if_neg (by simp)]
   have h1 : ([n / 40, n % 40] : List Int).all inR = true := by
     simp only [List.all_cons, List.all_nil, Bool.and_true, Bool.and_eq_true]
     exact ⟨inR_of (by omega), inR_of (by omega)⟩
   rw [if_neg (by rw [h1]; simp), if_pos (by omega)]
   simp; omega
 · rw [if_neg c, rightO_cons, if_neg (by simp)]
   have h1 : ([2, n - 80] : List Int).all inR = true := by
     simp only [List.all_cons, List.all_nil, Bool.and_true, Bool.and_eq_true]
     exact ⟨inR_of (by omega), inR_of (by omega)⟩
   rw [if_neg (by rw [h1]; simp), if_neg (by omega), if_pos rfl]
   simp; omega
theorem right_snoc {o : List Int} {n : Int} (ho : rightO o = true) (hl : o.length ≠ 32) (h : 0 ≤ n ∧ n ≤ 2147483647) : rightO (o ++ [n]) = true := by
 match o, ho with
 | a :: b :: t, ho =>
   rw [List.cons_append, List.cons_append, rightO_cons]
   rw [rightO_cons] at ho
   by_cases c1 : 30 < t.length
   · rw [if_pos c1] at ho; cases ho
   · rw [if_neg c1] at ho
     by_cases c2 : (a :: b :: t).all inR = false
     · rw [if_pos c2] at ho; cases ho
     · rw [if_neg c2] at ho
       rw [if_neg (by simp at hl ⊢; omega)]
       have h1 : (a :: b :: (t ++ [n])).all inR = true := by
         rw [Bool.not_eq_false] at c2
         rw [← List.cons_append, ← List.cons_append, List.all_append, c2]
         simp [inR_of h]
       rw [if_neg (by rw [h1]; simp)]
       exact ho
theorem prA_right (l : List Int) (hw : WfB l) : ∀ (k p : Nat) (o : List Int), l.length - p < k → (rightO o = true ∨ (o = [] ∧ p < l.length)) → (prA k l p o).2 = 0 → rightO (prA k l p o).1 = true
 | 0, p, o, h, _, _ => by omega
 | k + 1, p, o, h, ho, he => by
   unfold prA at he ⊢
   by_cases hp : p < l.length
   · rw [if_pos hp] at he ⊢
     dsimp only at he ⊢
     have hn := (nxA_le (l.drop p) p 0 true).2.2 (by rw [drop_at l p hp]; simp)
     have hr := nxA_rng (l.drop p) p 0 true (by omega) (fun x hx => hw x (List.mem_of_mem_drop hx))
     split at he
     · rename_i h1
       rw [if_pos h1]
       split at he
       · simp at he
       · rename_i h2
         rw [if_neg h2]
         refine prA_right l hw k _ _ (by omega) (.inl ?_) he
         rcases ho with ho | ⟨rfl, _⟩
         · have : ¬ o.length = 0 := by
             intro h; rw [List.eq_nil_of_length_eq_zero h] at ho; cases ho
           rw [if_neg this]
           exact right_snoc ho h2 hr
         · rw [if_pos (by rfl), List.nil_append]
           exact spl_right hr
     · rename_i h1
       exact absurd he h1
   · rw [if_neg hp]
     rcases ho with ho | ⟨_, h⟩
     · exact ho
     · exact absurd h hp
theorem oidP_right (l : List Int) (hw : WfB l) (he : (oidP l).2 = 0) : rightO (oidP l).1 = true := by
 unfold oidP at he ⊢
 by_cases h0 : l = []
 · rw [if_pos h0] at he; simp at he
 · rw [if_neg h0] at he ⊢
   have : 0 < l.length := by
     cases l with
     | nil => exact absurd rfl h0
     | cons => simp
   exact prA_right l hw _ _ _ (by omega) (.inr ⟨rfl, this⟩) he
def rightG (o m : List Int) : Bool := rightO o && (decide ((wholesP m 0).2 = 0) && decide ((wholesP m 0).1.length < 2))
theorem algP_right (x : List Int) (p : Nat) (hp : p ≤ x.length) (hw : WfB x) (he : (algP x p).2.2.1 = 0) : rightG (algP x p).1 (algP x p).2.1 = true := by
 have hle := oidR_le x p hp
 have hor : (oidR x p).2.2 = 0 → rightO (oidR x p).1 = true := by
   intro h
   have hmem := openP_mem x p (ofT 6)
   unfold oidR at h ⊢
   dsimp only at h ⊢
   split at h
   · rename_i h1
     rw [if_pos h1]
     split at h
     · rename_i h2
       rw [if_pos h2]
       exact oidP_right _ (fun y hy => hw y (hmem.2 y hy)) h2
     · rename_i h2; exact absurd h h2
   · rename_i h1; exact absurd h h1
 unfold algP at he ⊢
 dsimp only at he ⊢
 generalize oidR x p = O at *
 obtain ⟨o, q, e⟩ := O
 dsimp only at *
 by_cases h1 : e = 0
 · subst h1
   have ho := hor rfl
   rw [if_pos rfl] at he ⊢
   by_cases h2 : (parP x q).2.1 = 0
   · rw [if_pos h2]
     dsimp only
     unfold rightG
     rw [ho, Bool.true_and]
     unfold parP at h2 ⊢
     by_cases h3 : q = x.length
     · rw [if_pos h3]; rfl
     · rw [if_neg h3] at h2 ⊢
       dsimp only at h2 ⊢
       by_cases h4 : (readP x q).2.2 = 0
       · rw [if_pos h4] at h2 ⊢
         by_cases h5 : (x.length : Int) - ((readP x q).2.1 : Int) < (readP x q).1.2
         · rw [if_pos h5] at h2; simp at h2
         · rw [if_neg h5] at h2 ⊢
           by_cases h6 : (readP x q).1.2 < (x.length : Int) - ((readP x q).2.1 : Int)
           · rw [if_pos h6] at h2; simp at h2
           · rw [if_neg h6]
             rw [wholes_one x q (by omega) h4 (by omega)]
             rfl
       · rw [if_neg h4] at h2; exact absurd h2 h4
   · rw [if_neg h2] at he; exact absurd he h2
 · rw [if_neg h1] at he; exact absurd he h1
theorem algR_right (l : List Int) (p : Nat) (hw : WfB l) (he : (algR l p).2.2.1 = 0) : rightG (algR l p).1 (algR l p).2.1 = true := by
 have hmem := openP_mem l p (ofT 16)
 have ha := algP_right (openP l p (ofT 16)).1 0 (Nat.zero_le _) (fun y hy => hw y (hmem.2 y hy))
 unfold algR at he ⊢
 dsimp only at he ⊢
 split at he
 · rename_i h1
   rw [if_pos h1]
   split at he
   · rename_i h2
     rw [if_pos h2]
     exact ha h2
   · rename_i h2; exact absurd he h2
 · rename_i h1; exact absurd he h1
set_option maxHeartbeats 4000000 in
theorem rightalg_ok (o m : List Int) (ho : o.length ≤ 1000000) (hm : m.length ≤ 100000) (hw : WfB m) : Ct Tryz.prog 14 [algA o m] [] (lv (.bool (rightG o m))) [] [] := by
 have hr := oright_ok o ho
 have hcn := curnew_ok m (by omega)
 have hwh := wholes_ok m 0 (Nat.zero_le _) hm hw
 unfold rightG
 generalize wholesP m 0 = W at *
 obtain ⟨rs, e⟩ := W
 dsimp only at *
 cases hrr : rightO o with
 | false =>
   rw [hrr] at hr
   refine Ct_intro Tryz.func14 rfl rfl rfl rfl rfl (fun E hn hb => ?_)
   repeat refine nx ?_
   exact rt1 []
 | true =>
   rw [hrr] at hr
   rw [Bool.true_and]
   by_cases he : e = 0
   · subst he
     rw [if_pos rfl] at hwh
     refine Ct_intro Tryz.func14 rfl rfl rfl rfl rfl (fun E hn hb => ?_)
     repeat refine nx ?_
     refine rt2 [] (congrArg (fun x => lv (.bool x)) ?_) trivial
     simp; omega
   · rw [if_neg he] at hwh
     rw [decide_eq_false he]
     refine Ct_intro Tryz.func14 rfl rfl rfl rfl rfl (fun E hn hb => ?_)
     repeat refine nx ?_
     refine rt2 [] (congrArg (fun x => lv (.bool x)) ?_) trivial
     simp [he]

set_option maxRecDepth 10000
theorem algR_le (l : List Int) (p : Nat) (hp : p ≤ l.length) : p ≤ (algR l p).2.2.2 ∧ (algR l p).2.2.2 ≤ l.length := by
 have h := openP_le l p (ofT 16) hp
 unfold algR
 dsimp only
 split
 · split
   · exact h
   · exact ⟨Nat.le_refl _, hp⟩
 · exact ⟨Nat.le_refl _, hp⟩
theorem bitR_le (l : List Int) (p : Nat) (hp : p ≤ l.length) : p ≤ (bitR l p).2.2.1 ∧ (bitR l p).2.2.1 ≤ l.length := by
 have h := openP_le l p (ofT 3) hp
 unfold bitR
 dsimp only
 split
 · split
   · exact h
   · exact ⟨Nat.le_refl _, hp⟩
 · exact ⟨Nat.le_refl _, hp⟩
theorem parP_len (x : List Int) (p : Nat) : (parP x p).1.length ≤ x.length ∧ ∀ y ∈ (parP x p).1, y ∈ x := by
 unfold parP
 split
 · exact ⟨by simp, fun y h => by cases h⟩
 · dsimp only
   split
   · split
     · exact ⟨by simp, fun y h => by cases h⟩
     · split
       · exact ⟨by simp, fun y h => by cases h⟩
       · exact ⟨by simp, fun y h => List.mem_of_mem_drop h⟩
   · exact ⟨by simp, fun y h => by cases h⟩
theorem algR_len (l : List Int) (p : Nat) : (algR l p).2.1.length ≤ l.length ∧ ∀ y ∈ (algR l p).2.1, y ∈ l := by
 have hm := openP_mem l p (ofT 16)
 unfold algR algP
 dsimp only
 split
 · split
   · split
     · split
       · have := parP_len (openP l p (ofT 16)).1 (oidR (openP l p (ofT 16)).1 0).2.1
         exact ⟨Nat.le_trans this.1 hm.1, fun y h => hm.2 y (this.2 y h)⟩
       · exact ⟨by simp, fun y h => by cases h⟩
     · exact ⟨by simp, fun y h => by cases h⟩
   · exact ⟨by simp, fun y h => by cases h⟩
 · exact ⟨by simp, fun y h => by cases h⟩
theorem rightO_len {o : List Int} (h : rightO o = true) : o.length ≤ 32 := by
 match o, h with
 | a :: b :: t, h =>
   rw [rightO_cons] at h
   by_cases c1 : 30 < t.length
   · rw [if_pos c1] at h; cases h
   · simp; omega
theorem bitR_len (l : List Int) (p : Nat) : (bitR l p).2.1.length ≤ l.length := by
 have hm := openP_mem l p (ofT 3)
 have hp : (parS (openP l p (ofT 3)).1).2.1.length ≤ (openP l p (ofT 3)).1.length := by
   unfold parS
   cases (openP l p (ofT 3)).1 with
   | nil => simp
   | cons u m => dsimp only; split <;> simp
 unfold bitR
 dsimp only
 split
 · split
   · exact Nat.le_trans hp hm.1
   · simp
 · simp
end Go.Proofs.YthoaneleeabadaaGreat

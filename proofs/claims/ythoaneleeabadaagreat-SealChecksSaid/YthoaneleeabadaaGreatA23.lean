/-
  What is written is read as it was: arcs, oids, algorithms, bit strings, keys. Plain.
-/
import Derived.Test.YthoaneleeabadaaGreatA22
import Derived.Test.YthoaneleeabadaaGreatD8
namespace Go.Proofs.YthoaneleeabadaaGreat
set_option linter.unusedSimpArgs false
set_option linter.unusedVariables false
open Go.Sx
set_option maxRecDepth 10000
theorem nxA_more : ∀ (k N : Nat) (L : List Int), N < k → 0 < N → N ≤ 16777215 → arcL N = L ++ [((N % 128 : Nat) : Int)] → ∀ (r : List Int) (p : Nat), nxA (L ++ ([((N % 128 : Nat) : Int) + 128] ++ r)) p 0 true = nxA r (p + L.length + 1) N false
 | 0, _, _, h, _, _, _ => by omega
 | k + 1, N, L, h, h0, hm, hL => by
   intro r p
   by_cases c : N < 128
   · rw [arcL_small c] at hL
     have : L = [] := by
       have := congrArg List.length hL
       simp at this
       exact this
     subst this
     have e : N % 128 = N := Nat.mod_eq_of_lt c
     rw [e]
     show nxA (((N : Int) + 128) :: r) p 0 true = _
     rw [nxA, if_neg (by simp; omega), if_neg (by omega), if_neg (by omega)]
     have e2 : (128 : Int) * 0 + ((N : Int) + 128) % 128 = N := by omega
     rw [e2]
     rfl
   · obtain ⟨L', k1, k2⟩ := arcL_big c (by omega)
     rw [k2] at hL
     obtain ⟨rfl, _⟩ := snoc_inj hL
     have ih := nxA_more k (N / 128) L' (by omega) (by omega) (by omega) k1 ([((N % 128 : Nat) : Int) + 128] ++ r) p
     rw [List.append_assoc]
     rw [ih]
     show nxA ((((N % 128 : Nat) : Int) + 128) :: r) _ _ false = _
     rw [nxA, if_neg (by simp), if_neg (by omega), if_neg (by omega)]
     have e2 : (128 : Int) * ((N / 128 : Nat) : Int) + (((N % 128 : Nat) : Int) + 128) % 128 = N := by omega
     rw [e2]
     simp
     rfl
theorem nxA_fwd {N : Nat} (hm : N ≤ 2147483647) (r : List Int) (p : Nat) : nxA (arcL N ++ r) p 0 true = ((N : Int), 0, p + (arcL N).length) := by
 by_cases c : N < 128
 · rw [arcL_small c]
   show nxA ((N : Int) :: r) p 0 true = _
   rw [nxA, if_neg (by simp; omega), if_neg (by omega), if_pos (by omega)]
   have e2 : (128 : Int) * 0 + (N : Int) % 128 = N := by omega
   rw [e2]
   rfl
 · obtain ⟨L', k1, k2⟩ := arcL_big c (by omega)
   have := nxA_more (N / 128 + 1) (N / 128) L' (by omega) (by omega) (by omega) k1 ([((N % 128 : Nat) : Int)] ++ r) p
   rw [k2, List.append_assoc, List.append_assoc, this]
   show nxA (((N % 128 : Nat) : Int) :: r) _ _ false = _
   rw [nxA, if_neg (by simp), if_neg (by omega), if_pos (by omega)]
   have e2 : (128 : Int) * ((N / 128 : Nat) : Int) + ((N % 128 : Nat) : Int) % 128 = N := by omega
   rw [e2]
   simp
   omega
theorem arcL_pos (N : Nat) : 0 < (arcL N).length := by simp [arcL]
theorem prA_fwd (l : List Int) : ∀ (ns : List Int) (k p : Nat) (o : List Int), (∀ x ∈ ns, 0 ≤ x ∧ x ≤ 2147483647) → l.drop p = arcsL ns → p ≤ l.length → l.length - p < k → 2 ≤ o.length → o.length + ns.length ≤ 32 → prA k l p o = (o ++ ns, 0)
 | [], k + 1, p, o, hx, hd, hp, hk, ho, hs => by
   have : l.length ≤ p := by simpa [arcsL] using hd
   rw [prA, if_neg (by omega), List.append_nil]
 | x :: ns, k + 1, p, o, hx, hd, hp, hk, ho, hs => by
   have hd' : l.drop p = arcL x.toNat ++ arcsL ns := hd
   have hlen := congrArg List.length hd'
   have hpos := arcL_pos x.toNat
   have hx0 := hx x (List.mem_cons_self ..)
   rw [List.length_drop, List.length_append] at hlen
   simp only [List.length_cons] at hs
   have hnx := nxA_fwd (N := x.toNat) (by omega) (arcsL ns) p
   have e0 : ((x.toNat : Nat) : Int) = x := by omega
   rw [prA, if_pos (by omega), hd', hnx]
   dsimp only
   rw [if_pos rfl, if_neg (by omega), if_neg (by omega), e0]
   have ih := prA_fwd l ns k (p + (arcL x.toNat).length) (o ++ [x]) (fun y hy => hx y (List.mem_cons_of_mem _ hy)) (by rw [← List.drop_drop, hd', List.drop_left]) (by omega) (by omega) (by simp; omega) (by simp; omega)
   rw [ih, List.append_assoc]
   rfl
theorem oidP_fwd {o : List Int} (h : rightO o = true) : oidP (arcsL (numsL o)) = (o, 0) := by
 obtain ⟨a, b, t, rfl, h1, h2, h3, h4, h5, h6, h7⟩ := right_nums h
 have hd : arcsL (numsL (a :: b :: t)) = arcL (40 * a + b).toNat ++ arcsL t := rfl
 have hpos := arcL_pos (40 * a + b).toNat
 rw [hd]
 have hne : arcL (40 * a + b).toNat ++ arcsL t ≠ [] := by
   intro hh
   have := congrArg List.length hh
   simp at this
   rw [this.1] at hpos
   simp at hpos
 unfold oidP
 rw [if_neg hne]
 have hnx := nxA_fwd (N := (40 * a + b).toNat) (by omega) (arcsL t) 0
 have e0 : (((40 * a + b).toNat : Nat) : Int) = 40 * a + b := by omega
 have hsp : splA (40 * a + b) = [a, b] := by
   unfold splA
   by_cases c : 40 * a + b < 80
   · rw [if_pos c]
     rw [show (40 * a + b) / 40 = a by omega, show (40 * a + b) % 40 = b by omega]
   · rw [if_neg c]
     have : a = 2 := by omega
     subst this
     rw [show (40 : Int) * 2 + b - 80 = b by omega]
 rw [prA, if_pos (by simp; omega), List.drop_zero, hnx]
 dsimp only
 rw [if_pos rfl, if_neg (by simp), if_pos (by rfl), e0, hsp, List.nil_append]
 have := prA_fwd (arcL (40 * a + b).toNat ++ arcsL t) t ((arcL (40 * a + b).toNat ++ arcsL t).length) (0 + (arcL (40 * a + b).toNat).length) [a, b] h6 (by rw [Nat.zero_add, List.drop_left]) (by simp) (by simp; omega) (by simp) (by simp; omega)
 rw [this]
 rfl
theorem oidR_fwd (A C : List Int) {o : List Int} (h : rightO o = true) : oidR (A ++ (wrapL (ofT 6) (arcsL (numsL o)) ++ C)) A.length = (o, A.length + (wrapL (ofT 6) (arcsL (numsL o))).length, 0) := by
 have hl := conO_len h
 unfold oidR
 rw [openP_at A (arcsL (numsL o)) C (ofT 6) (by decide) (by omega)]
 dsimp only
 rw [if_pos rfl, oidP_fwd h]
 rfl
theorem wholesA_mono (l : List Int) : ∀ (n p : Nat) (acc : List (List Int)), (wholesA l n p acc).2 = 0 → acc.length ≤ (wholesA l n p acc).1.length
 | 0, p, acc, _ => by simp [wholesA]
 | n + 1, p, acc, h => by
   rw [wholesA] at h ⊢
   by_cases c : l.length ≤ p
   · rw [if_pos c]; exact Nat.le_refl _
   · rw [if_neg c] at h ⊢
     by_cases e : ¬ (oneP l p).2.2.2.1 = 0
     · rw [if_pos e] at h; exact absurd h e
     · rw [if_neg e] at h ⊢
       have := wholesA_mono l n _ _ h
       simp at this
       omega
theorem wholesA_two (l : List Int) (n p : Nat) (acc : List (List Int)) (h : (wholesA l n p acc).2 = 0) (hp : p < l.length) (hn : 0 < n) : acc.length + 1 ≤ (wholesA l n p acc).1.length := by
 obtain ⟨k, rfl⟩ : ∃ k, n = k + 1 := ⟨n - 1, by omega⟩
 rw [wholesA, if_neg (by omega)] at h ⊢
 by_cases e : ¬ (oneP l p).2.2.2.1 = 0
 · rw [if_pos e] at h; exact absurd h e
 · rw [if_neg e] at h ⊢
   have := wholesA_mono l k _ _ h
   simpa using this
theorem wholes_read {m : List Int} (hw : WfB m) (h0 : (wholesP m 0).2 = 0) (h1 : (wholesP m 0).1.length < 2) (hm : m ≠ []) : (readP m 0).2.2 = 0 ∧ (readP m 0).1.2 = (m.length : Int) - ((readP m 0).2.1 : Int) := by
 have hpos : 0 < m.length := by cases m with | nil => exact absurd rfl hm | cons _ _ => simp
 have hle := readP_le m 0 (Nat.zero_le _)
 have hn0 := (readP_pos m 0 hw).1
 unfold wholesP at h0 h1
 rw [wholesA, if_neg (by omega)] at h0 h1
 by_cases e : ¬ (oneP m 0).2.2.2.1 = 0
 · rw [if_pos e] at h0; exact absurd h0 e
 · rw [if_neg e] at h0 h1
   have h2 : ¬ (oneP m 0).2.2.2.2 < m.length := by
     intro hq
     have := wholesA_two m m.length _ _ h0 hq hpos
     simp at this
     simp at h1
     omega
   unfold oneP at e h2
   by_cases c1 : ¬ (readP m 0).2.2 = 0
   · rw [if_pos c1] at e; exact absurd c1 e
   · rw [if_neg c1] at e h2
     by_cases c2 : (m.length : Int) - (readP m 0).2.1 < (readP m 0).1.2
     · rw [if_pos c2] at e; simp at e
     · rw [if_neg c2] at e h2
       dsimp only at h2
       refine ⟨by simpa using c1, ?_⟩
       omega
theorem parP_fwd {x m : List Int} {p : Nat} (hw : WfB m) (hd : x.drop p = m) (hp : p ≤ x.length) (h0 : (wholesP m 0).2 = 0) (h1 : (wholesP m 0).1.length < 2) : (parP x p).1 = m ∧ (parP x p).2.1 = 0 := by
 unfold parP
 by_cases c : p = x.length
 · rw [if_pos c]
   rw [c, List.drop_length] at hd
   exact ⟨hd, rfl⟩
 · rw [if_neg c]
   have hl : m.length = x.length - p := by rw [← hd]; simp
   have hne : m ≠ [] := by intro h; rw [h] at hl; simp at hl; omega
   have hr := wholes_read hw h0 h1 hne
   have hle := readP_le m 0 (Nat.zero_le _)
   have hs := readP_sh x p 0 hp
   rw [Nat.add_zero, hd] at hs
   rw [hs]
   generalize readP m 0 = R at *
   obtain ⟨⟨t, n⟩, q, e⟩ := R
   unfold shP
   dsimp only at *
   rw [if_pos hr.1, if_neg (by omega), if_neg (by omega)]
   exact ⟨hd, rfl⟩
theorem rightG_m {o m : List Int} (h : rightG o m = true) : (wholesP m 0).2 = 0 ∧ (wholesP m 0).1.length < 2 := by
 unfold rightG at h
 simp at h
 exact ⟨h.2.1, h.2.2⟩
theorem algP_fwd {o m : List Int} (hw : WfB m) (h : rightG o m = true) : (algP (wrapL (ofT 6) (arcsL (numsL o)) ++ m) 0).1 = o ∧ (algP (wrapL (ofT 6) (arcsL (numsL o)) ++ m) 0).2.1 = m ∧ (algP (wrapL (ofT 6) (arcsL (numsL o)) ++ m) 0).2.2.1 = 0 := by
 have ho := oidR_fwd [] m (rightG_o h)
 have hm := rightG_m h
 rw [List.nil_append, List.length_nil, Nat.zero_add] at ho
 have hp := parP_fwd (x := wrapL (ofT 6) (arcsL (numsL o)) ++ m) (p := (wrapL (ofT 6) (arcsL (numsL o))).length) hw List.drop_left (by simp) hm.1 hm.2
 unfold algP
 rw [ho]
 dsimp only
 rw [if_pos rfl, if_pos hp.2]
 exact ⟨rfl, hp.1, rfl⟩
theorem algR_fwd (A C : List Int) {o m : List Int} (hw : WfB m) (h : rightG o m = true) (hm : m.length ≤ 100000) : algR (A ++ (wrapL (ofT 16) (wrapL (ofT 6) (arcsL (numsL o)) ++ m) ++ C)) A.length = (o, m, 0, A.length + (wrapL (ofT 16) (wrapL (ofT 6) (arcsL (numsL o)) ++ m)).length) := by
 have hl := whole_len (rightG_o h)
 have hp := algP_fwd hw h
 unfold algR
 rw [openP_at A _ C (ofT 16) (by decide) (by rw [List.length_append]; omega)]
 dsimp only
 rw [if_pos rfl, if_pos hp.2.2, hp.1, hp.2.1]
theorem bitR_fwd (A C : List Int) {u : Int} {n : List Int} (h : rightS u n = true) (hn : n.length ≤ 100000) : bitR (A ++ (wrapL (ofT 3) (u :: n) ++ C)) A.length = (u, n, A.length + (wrapL (ofT 3) (u :: n)).length, 0) := by
 unfold bitR
 rw [openP_at A _ C (ofT 3) (by decide) (by simp; omega)]
 dsimp only
 rw [if_pos rfl]
 have hs : parS (u :: n) = (u, n, true) := by
   show (if rightS u n = true then (u, n, true) else (0, [], false)) = _
   rw [if_pos h]
 rw [hs]
 rfl
end Go.Proofs.YthoaneleeabadaaGreat

/-
  Chapter 18's law AlgoBack, walked: it returns true. The conditions: rows of bytes that a machine can hold.
-/
import Derived.Test.YthoaneleeabadaaGreatM1
import Derived.Test.YthoaneleeabadaaGreatD8
import Derived.Test.YthoaneleeabadaaGreatA13
import Derived.Test.YthoaneleeabadaaGreatA18
namespace Go.Proofs.YthoaneleeabadaaGreat
set_option linter.unusedSimpArgs false
set_option linter.unusedVariables false
open Go.Sx
set_option maxRecDepth 10000
theorem num_back {l : List Int} {p q : Nat} {N : Int} (hw : WfB l) (h : numP l 3 p 0 = (N, q, 0)) : 31 ≤ N ∧ N < 2097152 ∧ l.drop p = refD N ++ l.drop q := by
 have w1 := wf_at hw p
 have w2 := wf_at hw (p + 1)
 have w3 := wf_at hw (p + 1 + 1)
 have e1 := drop_at l p
 have e2 := drop_at l (p + 1)
 have e3 := drop_at l (p + 1 + 1)
 rw [numP] at h
 generalize l.getD p 0 = d1 at *
 by_cases h1 : p < l.length
 · rw [if_pos h1] at h
   by_cases c1 : 2 = 2 ∧ d1 = 128
   · rw [if_pos c1] at h; simp at h
   · rw [if_neg c1] at h
     by_cases c2 : d1 < 128
     · rw [if_pos c2] at h
       by_cases c3 : 128 * 0 + d1 % 128 < 31
       · rw [if_pos c3] at h; simp at h
       · rw [if_neg c3] at h
         simp only [Prod.mk.injEq] at h
         obtain ⟨rfl, rfl, _⟩ := h
         refine ⟨by omega, by omega, ?_⟩
         unfold refD
         rw [if_neg (by omega), if_neg (by omega), e1 h1, show (128 * 0 + d1 % 128) % 128 = d1 by omega]
         rfl
     · rw [if_neg c2] at h
       rw [numP] at h
       generalize l.getD (p + 1) 0 = d2 at *
       by_cases h2 : p + 1 < l.length
       · rw [if_pos h2, if_neg (by omega)] at h
         by_cases c4 : d2 < 128
         · rw [if_pos c4] at h
           by_cases c5 : 128 * (128 * 0 + d1 % 128) + d2 % 128 < 31
           · rw [if_pos c5] at h; simp at h
           · rw [if_neg c5] at h
             simp only [Prod.mk.injEq] at h
             obtain ⟨rfl, rfl, _⟩ := h
             refine ⟨by omega, by omega, ?_⟩
             have hN : 128 * (128 * 0 + d1 % 128) + d2 % 128 = 128 * (d1 - 128) + d2 := by omega
             rw [hN]
             unfold refD
             rw [if_neg (by omega), if_pos (by omega), e1 h1, e2 h2, show 128 + (128 * (d1 - 128) + d2) / 128 % 128 = d1 by omega, show (128 * (d1 - 128) + d2) % 128 = d2 by omega]
             rfl
         · rw [if_neg c4] at h
           rw [numP] at h
           generalize l.getD (p + 1 + 1) 0 = d3 at *
           by_cases h3 : p + 1 + 1 < l.length
           · rw [if_pos h3, if_neg (by omega)] at h
             by_cases c6 : d3 < 128
             · rw [if_pos c6] at h
               by_cases c7 : 128 * (128 * (128 * 0 + d1 % 128) + d2 % 128) + d3 % 128 < 31
               · rw [if_pos c7] at h; simp at h
               · rw [if_neg c7] at h
                 simp only [Prod.mk.injEq] at h
                 obtain ⟨rfl, rfl, _⟩ := h
                 refine ⟨by omega, by omega, ?_⟩
                 have hN : 128 * (128 * (128 * 0 + d1 % 128) + d2 % 128) + d3 % 128 = 16384 * (d1 - 128) + 128 * (d2 - 128) + d3 := by omega
                 rw [hN]
                 unfold refD
                 rw [if_pos (by omega), if_pos (by omega), e1 h1, e2 h2, e3 h3, show 128 + (16384 * (d1 - 128) + 128 * (d2 - 128) + d3) / 16384 = d1 by omega, show 128 + (16384 * (d1 - 128) + 128 * (d2 - 128) + d3) / 128 % 128 = d2 by omega, show (16384 * (d1 - 128) + 128 * (d2 - 128) + d3) % 128 = d3 by omega]
                 rfl
             · rw [if_neg c6] at h
               rw [numP] at h
               split at h <;> simp at h
           · rw [if_neg h3] at h; simp at h
       · rw [if_neg h2] at h; simp at h
 · rw [if_neg h1] at h; simp at h
theorem tag_back {l : List Int} {p q : Nat} {t : TagP} (hw : WfB l) (h : tagP l p = (t, q, 0)) : rightT t = true ∧ l.drop p = tgL t ++ l.drop q := by
 have hr : rawT l p = (t, q, 0) := by
   unfold tagP keepP at h
   split at h
   · exact h
   · rename_i h1
     simp only [Prod.mk.injEq] at h
     exact absurd h.2.2 h1
 have w1 := wf_at hw p
 have e1 := drop_at l p
 unfold rawT at hr
 generalize l.getD p 0 = c at *
 by_cases hp : p < l.length
 · rw [if_pos hp] at hr
   have hfi : ∀ n : Int, firstI (c / 64, n, decide (c / 32 % 2 = 1)) = 64 * (c / 64) + 32 * (c / 32 % 2) := by
     intro n
     unfold firstI
     dsimp only
     by_cases hb : c / 32 % 2 = 1
     · rw [decide_eq_true hb, hb]; rfl
     · rw [decide_eq_false hb]
       have : c / 32 % 2 = 0 := by omega
       rw [this]; rfl
   by_cases h31 : c % 32 = 31
   · rw [if_pos h31] at hr
     generalize hn : numP l 3 (p + 1) 0 = R at *
     obtain ⟨N, q2, e⟩ := R
     simp only [Prod.mk.injEq] at hr
     obtain ⟨rfl, rfl, rfl⟩ := hr
     obtain ⟨n1, n2, n3⟩ := num_back hw hn
     refine ⟨by simp [rightT]; omega, ?_⟩
     have hR := refD_eq N.toNat (by omega) (by omega)
     rw [show ((N.toNat : Nat) : Int) = N by omega] at hR
     unfold tgL
     dsimp only
     rw [if_neg (by omega), hfi, ← hR, e1 hp, n3]
     have : 64 * (c / 64) + 32 * (c / 32 % 2) + 31 = c := by omega
     rw [this]
     rfl
   · rw [if_neg h31] at hr
     simp only [Prod.mk.injEq] at hr
     obtain ⟨rfl, rfl, _⟩ := hr
     refine ⟨by simp [rightT]; omega, ?_⟩
     unfold tgL
     dsimp only
     rw [if_pos (by omega), hfi, e1 hp]
     have : 64 * (c / 64) + 32 * (c / 32 % 2) + c % 32 = c := by omega
     rw [this]
     rfl
 · rw [if_neg hp] at hr; simp at hr
theorem len_back {l : List Int} {p q : Nat} {n : Int} (hw : WfB l) (h : lenP l p = (n, q, 0)) : 0 ≤ n ∧ n ≤ 16777216 ∧ l.drop p = lenL n.toNat ++ l.drop q := by
 have hr : rawL l p = (n, q, 0) := by
   unfold lenP keepP at h
   split at h
   · exact h
   · rename_i h1
     simp only [Prod.mk.injEq] at h
     exact absurd h.2.2 h1
 have w0 := wf_at hw p
 have w1 := wf_at hw (p + 1)
 have w2 := wf_at hw (p + 1 + 1)
 have w3 := wf_at hw (p + 1 + 1 + 1)
 have w4 := wf_at hw (p + 1 + 1 + 1 + 1)
 have e0 := drop_at l p
 have e1 := drop_at l (p + 1)
 have e2 := drop_at l (p + 1 + 1)
 have e3 := drop_at l (p + 1 + 1 + 1)
 have e4 := drop_at l (p + 1 + 1 + 1 + 1)
 unfold rawL at hr
 by_cases hp : p < l.length
 · rw [if_pos hp] at hr
   generalize l.getD p 0 = c at *
   by_cases h1 : c < 128
   · rw [if_pos h1] at hr
     simp only [Prod.mk.injEq] at hr
     obtain ⟨rfl, rfl, _⟩ := hr
     refine ⟨by omega, by omega, ?_⟩
     unfold lenL
     rw [if_pos (by omega), e0 hp, show ((c.toNat : Nat) : Int) = c by omega]
     rfl
   · rw [if_neg h1] at hr
     by_cases h2 : c = 128 ∨ 132 < c
     · rw [if_pos h2] at hr; simp at hr
     · rw [if_neg h2] at hr
       unfold longP at hr
       by_cases h3 : l.length < p + 1 + (c % 128).toNat
       · rw [if_pos h3] at hr; simp at hr
       · rw [if_neg h3] at hr
         generalize l.getD (p + 1) 0 = d1 at *
         generalize l.getD (p + 1 + 1) 0 = d2 at *
         generalize l.getD (p + 1 + 1 + 1) 0 = d3 at *
         generalize l.getD (p + 1 + 1 + 1 + 1) 0 = d4 at *
         have hc : c = 129 ∨ c = 130 ∨ c = 131 ∨ c = 132 := by omega
         have fin : ∀ (k : Nat) (D : List Int), l.drop (p + 1) = D ++ l.drop (p + 1 + k) → D.length = k → (c % 128).toNat = k → (0 ≤ valA 0 D) → (128 ≤ valA 0 D → valA 0 D ≤ 16777216 → d1 ≠ 0 → refLenL (valA 0 D) = c :: D) → 0 ≤ n ∧ n ≤ 16777216 ∧ l.drop p = lenL n.toNat ++ l.drop q := by
           intro k D hD hk hck h0 href
           rw [hck, show (l.drop (p + 1)).take k = D by rw [hD, ← hk, List.take_left]] at hr
           by_cases h4 : d1 = 0 ∨ valA 0 D < 128
           · rw [if_pos h4] at hr; simp at hr
           · rw [if_neg h4] at hr
             by_cases h5 : 16777216 < valA 0 D
             · rw [if_pos h5] at hr; simp at hr
             · rw [if_neg h5] at hr
               simp only [Prod.mk.injEq] at hr
               obtain ⟨rfl, rfl, _⟩ := hr
               refine ⟨h0, by omega, ?_⟩
               rw [← refLen_eq _ (by omega), show (((valA 0 D).toNat : Nat) : Int) = valA 0 D by omega, href (by omega) (by omega) (by omega), e0 hp, hD]
               rfl
         rcases hc with rfl | rfl | rfl | rfl
         · have q1 : p + 1 < l.length := by omega
           refine fin 1 [d1] (by rw [e1 q1]; rfl) rfl (by decide) (by simp [valA]; omega) (fun a1 a2 a3 => ?_)
           simp only [valA] at a1 a2 ⊢
           unfold refLenL
           rw [if_neg (by omega), if_pos (by omega)]
           simp
         · have q1 : p + 1 < l.length := by omega
           have q2 : p + 1 + 1 < l.length := by omega
           refine fin 2 [d1, d2] (by rw [e1 q1, e2 q2]; rfl) rfl (by decide) (by simp [valA]; omega) (fun a1 a2 a3 => ?_)
           simp only [valA] at a1 a2 ⊢
           unfold refLenL
           rw [if_neg (by omega), if_neg (by omega), if_pos (by omega)]
           simp; omega
         · have q1 : p + 1 < l.length := by omega
           have q2 : p + 1 + 1 < l.length := by omega
           have q3 : p + 1 + 1 + 1 < l.length := by omega
           refine fin 3 [d1, d2, d3] (by rw [e1 q1, e2 q2, e3 q3]; rfl) rfl (by decide) (by simp [valA]; omega) (fun a1 a2 a3 => ?_)
           simp only [valA] at a1 a2 ⊢
           unfold refLenL
           rw [if_neg (by omega), if_neg (by omega), if_neg (by omega), if_pos (by omega)]
           simp; omega
         · have q1 : p + 1 < l.length := by omega
           have q2 : p + 1 + 1 < l.length := by omega
           have q3 : p + 1 + 1 + 1 < l.length := by omega
           have q4 : p + 1 + 1 + 1 + 1 < l.length := by omega
           refine fin 4 [d1, d2, d3, d4] (by rw [e1 q1, e2 q2, e3 q3, e4 q4]; rfl) rfl (by decide) (by simp [valA]; omega) (fun a1 a2 a3 => ?_)
           simp only [valA] at a1 a2 ⊢
           unfold refLenL
           rw [if_neg (by omega), if_neg (by omega), if_neg (by omega), if_neg (by omega)]
           simp; omega
 · rw [if_neg hp] at hr; simp at hr
theorem read_back {l : List Int} {p q : Nat} {t : TagP} {n : Int} (hw : WfB l) (h : readP l p = ((t, n), q, 0)) : rightT t = true ∧ 0 ≤ n ∧ n ≤ 16777216 ∧ l.drop p = tgL t ++ (lenL n.toNat ++ l.drop q) := by
 have hr : rawF l p = ((t, n), q, 0) := by
   unfold readP keepP at h
   split at h
   · exact h
   · rename_i h1
     simp only [Prod.mk.injEq] at h
     exact absurd h.2.2 h1
 unfold rawF at hr
 generalize ht : tagP l p = T at *
 obtain ⟨t1, q1, e1⟩ := T
 dsimp only at hr
 by_cases he : e1 = 0
 · subst he
   rw [if_pos rfl] at hr
   generalize hl : lenP l q1 = L at *
   obtain ⟨n1, q2, e2⟩ := L
   simp only [Prod.mk.injEq] at hr
   obtain ⟨⟨rfl, rfl⟩, rfl, rfl⟩ := hr
   obtain ⟨a1, a2⟩ := tag_back hw ht
   obtain ⟨b1, b2, b3⟩ := len_back hw hl
   exact ⟨a1, b1, b2, by rw [a2, b3]⟩
 · rw [if_neg he] at hr
   simp only [Prod.mk.injEq] at hr
   exact absurd hr.2.2 he
theorem open_back {l x : List Int} {p q : Nat} {t : TagP} (hw : WfB l) (h : openP l p t = (x, q, 0)) : rightT t = true ∧ l.drop p = wrapL t x ++ l.drop q := by
 rw [openP_eq] at h
 generalize hr : readP l p = R at *
 obtain ⟨⟨t1, n⟩, q1, e⟩ := R
 dsimp only at h
 by_cases he : e = 0
 · subst he
   rw [if_pos rfl] at h
   by_cases h1 : t1 = t
   · rw [if_pos h1] at h
     subst h1
     by_cases h2 : (l.length : Int) - (q1 : Int) < n
     · rw [if_pos h2] at h; simp at h
     · rw [if_neg h2] at h
       simp only [Prod.mk.injEq] at h
       obtain ⟨rfl, rfl, _⟩ := h
       obtain ⟨a1, a2, a3, a4⟩ := read_back hw hr
       refine ⟨a1, ?_⟩
       have hlen : ((l.drop q1).take n.toNat).length = n.toNat := by simp; omega
       unfold wrapL
       rw [hlen, a4]
       simp only [List.append_assoc]
       rw [← List.drop_drop, List.take_append_drop]
   · rw [if_neg h1] at h; simp at h
 · rw [if_neg he] at h; simp at h; omega

set_option maxRecDepth 10000
theorem snoc_inj {a b : List Int} {x y : Int} (h : a ++ [x] = b ++ [y]) : a = b ∧ x = y := by
 have := List.append_inj' h rfl
 exact ⟨this.1, by simpa using this.2⟩
theorem nx_back : ∀ (r : List Int) (p : Nat) (n : Int) (f : Bool) (N : Int) (q : Nat), (∀ x ∈ r, 0 ≤ x ∧ x < 256) → 0 ≤ n → n ≤ 2147483647 → nxA r p n f = (N, 0, q) →
   ∃ w r', r = w ++ r' ∧ q = p + w.length ∧ (f = true → n = 0 → arcL N.toNat = w) ∧ (f = false → 0 < n → ∀ L, arcL n.toNat = L ++ [n % 128] → arcL N.toNat = L ++ [n % 128 + 128] ++ w)
 | [], p, n, f, N, q, _, _, _, h => by simp [nxA] at h
 | x :: r, p, n, f, N, q, hw, h0, hm, h => by
   have hx := hw x (List.mem_cons_self ..)
   unfold nxA at h
   by_cases c1 : f = true ∧ x = 128
   · rw [if_pos c1] at h; simp at h
   · rw [if_neg c1] at h
     by_cases c2 : 2147483647 < 128 * n + x % 128
     · rw [if_pos c2] at h; simp at h
     · rw [if_neg c2] at h
       have big : f = false → 0 < n → ∀ L, arcL n.toNat = L ++ [n % 128] → arcL (128 * n + x % 128).toNat = (L ++ [n % 128 + 128]) ++ [x % 128] := by
         intro hf hn L hL
         obtain ⟨L', k1, k2⟩ := arcL_big (n := (128 * n + x % 128).toNat) (by omega) (by omega)
         have e1 : (128 * n + x % 128).toNat / 128 = n.toNat := by omega
         rw [e1, hL] at k1
         obtain ⟨rfl, e2⟩ := snoc_inj k1
         rw [k2, e1]
         have e3 : ((n.toNat % 128 : Nat) : Int) = n % 128 := by omega
         have e4 : (((128 * n + x % 128).toNat % 128 : Nat) : Int) = x % 128 := by omega
         rw [e3, e4]
       by_cases c3 : x < 128
       · rw [if_pos c3] at h
         simp only [Prod.mk.injEq] at h
         obtain ⟨rfl, _, rfl⟩ := h
         refine ⟨[x], r, rfl, rfl, fun hf hn => ?_, fun hf hn L hL => ?_⟩
         · subst hn
           have : (128 * 0 + x % 128).toNat = x.toNat := by omega
           rw [this, arcL_small (by omega)]
           have : ((x.toNat : Nat) : Int) = x := by omega
           rw [this]
         · rw [big hf hn L hL, show x % 128 = x by omega]
       · rw [if_neg c3] at h
         obtain ⟨w, r', e1, e2, _, e4⟩ := nx_back r (p + 1) (128 * n + x % 128) false N q (fun y hy => hw y (List.mem_cons_of_mem _ hy)) (by omega) (by omega) h
         refine ⟨x :: w, r', by rw [e1]; rfl, by rw [e2]; simp; omega, fun hf hn => ?_, fun hf hn L hL => ?_⟩
         · subst hn
           have hx1 : x ≠ 128 := fun h => c1 ⟨hf, h⟩
           have := e4 rfl (by omega) [] (by rw [arcL_small (by omega)]; simp; omega)
           rw [this]
           have e5 : (128 * 0 + x % 128) % 128 + 128 = x := by omega
           rw [e5]
           rfl
         · have := e4 rfl (by omega) (L ++ [n % 128 + 128]) (by rw [big hf hn L hL]; have : (128 * n + x % 128) % 128 = x % 128 := by omega
                                                                rw [this])
           rw [this]
           have e5 : (128 * n + x % 128) % 128 + 128 = x := by omega
           rw [e5]
           simp
theorem nums_spl {N : Int} (h : 0 ≤ N) : numsL (splA N) = [N] := by
 unfold splA
 by_cases c : N < 80
 · rw [if_pos c]
   show [40 * (N / 40) + N % 40] = [N]
   rw [show 40 * (N / 40) + N % 40 = N by omega]
 · rw [if_neg c]
   show [40 * 2 + (N - 80)] = [N]
   rw [show 40 * 2 + (N - 80) = N by omega]
theorem prA_back (l : List Int) (hw : WfB l) : ∀ (k p : Nat) (o ro : List Int), l.length - p < k → (o = [] ∨ 2 ≤ o.length) → prA k l p o = (ro, 0) → arcsL (numsL ro) = arcsL (numsL o) ++ l.drop p
 | 0, p, o, ro, h, _, _ => by omega
 | k + 1, p, o, ro, h, ho, he => by
   unfold prA at he
   by_cases hp : p < l.length
   · rw [if_pos hp] at he
     dsimp only at he
     have hn := (nxA_le (l.drop p) p 0 true).2.2 (by rw [drop_at l p hp]; simp)
     have hr := nxA_rng (l.drop p) p 0 true (by omega) (fun x hx => hw x (List.mem_of_mem_drop hx))
     have hb := nx_back (l.drop p) p 0 true
     generalize nxA (l.drop p) p 0 true = X at *
     obtain ⟨N, e, q⟩ := X
     dsimp only at *
     by_cases h1 : e = 0
     · subst h1
       rw [if_pos rfl] at he
       obtain ⟨w, r', e1, e2, e3, _⟩ := hb N q (fun x hx => hw x (List.mem_of_mem_drop hx)) (by omega) (by omega) rfl
       have e3 := e3 rfl rfl
       have hdq : l.drop q = r' := by rw [e2, ← List.drop_drop, e1, List.drop_left]
       by_cases h2 : o.length = 32
       · rw [if_pos h2] at he; simp at he
       · rw [if_neg h2] at he
         have ih := prA_back l hw k q _ ro (by omega) (.inr ?_) he
         · rw [ih, e1, hdq, ← List.append_assoc]
           congr 1
           rcases ho with rfl | ho
           · rw [if_pos (by rfl), List.nil_append, nums_spl hr.1]
             show [N].flatMap (fun x => arcL x.toNat) = [] ++ w
             simp [e3]
           · match o, ho with
             | a :: b :: t, _ =>
               rw [if_neg (by simp)]
               show ((40 * a + b) :: (t ++ [N])).flatMap (fun x => arcL x.toNat) = ((40 * a + b) :: t).flatMap (fun x => arcL x.toNat) ++ w
               rw [← List.cons_append, List.flatMap_append]
               simp [e3]
         · rcases ho with rfl | ho
           · rw [if_pos (by rfl)]
             unfold splA
             split <;> simp
           · rw [if_neg (by omega)]
             simp; omega
     · rw [if_neg h1] at he
       simp only [Prod.mk.injEq] at he
       exact absurd he.2 h1
   · rw [if_neg hp] at he
     simp only [Prod.mk.injEq] at he
     obtain ⟨rfl, _⟩ := he
     rw [List.drop_eq_nil_of_le (by omega), List.append_nil]
theorem oidP_back {l o : List Int} (hw : WfB l) (h : oidP l = (o, 0)) : arcsL (numsL o) = l := by
 unfold oidP at h
 by_cases h0 : l = []
 · rw [if_pos h0] at h; simp at h
 · rw [if_neg h0] at h
   have := prA_back l hw _ 0 [] o (by omega) (.inl rfl) h
   rw [this]
   rfl
theorem oidR_back {l o : List Int} {p q : Nat} (hw : WfB l) (h : oidR l p = (o, q, 0)) : l.drop p = wrapL (ofT 6) (arcsL (numsL o)) ++ l.drop q := by
 unfold oidR at h
 have hm := openP_mem l p (ofT 6)
 generalize hX : openP l p (ofT 6) = X at *
 obtain ⟨x, q1, e⟩ := X
 dsimp only at *
 by_cases he : e = 0
 · subst he
   rw [if_pos rfl] at h
   generalize hY : oidP x = Y at *
   obtain ⟨o1, f⟩ := Y
   dsimp only at *
   by_cases hf : f = 0
   · subst hf
     rw [if_pos rfl] at h
     simp only [Prod.mk.injEq] at h
     obtain ⟨rfl, rfl, _⟩ := h
     rw [oidP_back (fun y hy => hw y (hm.2 y hy)) hY]
     exact (open_back hw hX).2
   · rw [if_neg hf] at h
     simp only [Prod.mk.injEq] at h
     exact absurd h.2.2 hf
 · rw [if_neg he] at h
   simp only [Prod.mk.injEq] at h
   exact absurd h.2.2 he
theorem algP_back {x o m : List Int} {q : Nat} (hw : WfB x) (h : algP x 0 = (o, m, 0, q)) : x = wrapL (ofT 6) (arcsL (numsL o)) ++ m := by
 have hle := oidR_le x 0 (Nat.zero_le _)
 unfold algP at h
 generalize hO : oidR x 0 = O at *
 obtain ⟨o1, q1, e⟩ := O
 dsimp only at *
 by_cases he : e = 0
 · subst he
   rw [if_pos rfl] at h
   by_cases h2 : (parP x q1).2.1 = 0
   · rw [if_pos h2] at h
     simp only [Prod.mk.injEq] at h
     obtain ⟨rfl, rfl, _, _⟩ := h
     have hb := oidR_back hw hO
     rw [List.drop_zero] at hb
     have hm : (parP x q1).1 = x.drop q1 := by
       unfold parP at h2 ⊢
       by_cases h3 : q1 = x.length
       · rw [if_pos h3]
         rw [h3, List.drop_length]
       · rw [if_neg h3] at h2 ⊢
         dsimp only at h2 ⊢
         by_cases h4 : (readP x q1).2.2 = 0
         · rw [if_pos h4] at h2 ⊢
           by_cases h5 : (x.length : Int) - ((readP x q1).2.1 : Int) < (readP x q1).1.2
           · rw [if_pos h5] at h2; simp at h2
           · rw [if_neg h5] at h2 ⊢
             by_cases h6 : (readP x q1).1.2 < (x.length : Int) - ((readP x q1).2.1 : Int)
             · rw [if_pos h6] at h2; simp at h2
             · rw [if_neg h6]
         · rw [if_neg h4] at h2; exact absurd h2 h4
     rw [hm]
     exact hb
   · rw [if_neg h2] at h
     simp only [Prod.mk.injEq] at h
     exact absurd h.2.2.1 h2
 · rw [if_neg he] at h
   simp only [Prod.mk.injEq] at h
   exact absurd h.2.2.1 he
theorem algR_back {l o m : List Int} {p q : Nat} (hw : WfB l) (h : algR l p = (o, m, 0, q)) : l.drop p = wrapL (ofT 16) (wrapL (ofT 6) (arcsL (numsL o)) ++ m) ++ l.drop q := by
 have hm := openP_mem l p (ofT 16)
 unfold algR at h
 generalize hX : openP l p (ofT 16) = X at *
 obtain ⟨x, q1, e⟩ := X
 dsimp only at *
 by_cases he : e = 0
 · subst he
   rw [if_pos rfl] at h
   generalize hA : algP x 0 = A at *
   obtain ⟨o1, m1, f, q2⟩ := A
   dsimp only at *
   by_cases hf : f = 0
   · subst hf
     rw [if_pos rfl] at h
     simp only [Prod.mk.injEq] at h
     obtain ⟨rfl, rfl, _, rfl⟩ := h
     rw [← algP_back (fun y hy => hw y (hm.2 y hy)) hA]
     exact (open_back hw hX).2
   · rw [if_neg hf] at h
     simp only [Prod.mk.injEq] at h
     exact absurd h.2.2.1 hf
 · rw [if_neg he] at h
   simp only [Prod.mk.injEq] at h
   exact absurd h.2.2.1 he

set_option maxRecDepth 10000
theorem rightS_u {u : Int} {l : List Int} (h : rightS u l = true) : 0 ≤ u ∧ u ≤ 7 := by
 unfold rightS at h
 by_cases h0 : l = []
 · rw [if_pos h0] at h; simp at h; omega
 · rw [if_neg h0] at h; simp at h; omega
theorem bcont_ok (u : Int) (l : List Int) (hl : l.length ≤ 1000000) (hw : WfB l) : Ct Tryz.prog 110 [bitA u l] [] (.tup [B8 (if rightS u l = true then u :: l else []), lv (.int .i64 (if rightS u l = true then 0 else 1))]) [] [] := by
 have hr := bright_ok u l hl hw
 cases hg : rightS u l with
 | false =>
   rw [hg] at hr
   rw [if_neg (by simp), if_neg (by simp)]
   refine Ct_intro Tryz.func110 rfl rfl rfl rfl rfl (fun E hn hb => ?_)
   repeat refine nx ?_
   exact rtU []
 | true =>
   rw [hg] at hr
   have hu := rightS_u hg
   rw [if_pos rfl, if_pos rfl]
   refine Ct_intro Tryz.func110 rfl rfl rfl rfl rfl (fun E hn hb => ?_)
   repeat (first | refine lo1 ?_ | refine nx ?_)
   refine frzN 2 ?_
   exact rt1 []
def wrS (u : Int) (l : List Int) : List Int × Int := if rightS u l = true then (wrapL (ofT 3) (u :: l), 0) else ([], 1)
theorem bwrite_ok (u : Int) (l : List Int) (hl : l.length ≤ 100000) (hw : WfB l) : Ct Tryz.prog 61 [bitA u l] [] (.tup [B8 (wrS u l).1, lv (.int .i64 (wrS u l).2)]) [] [] := by
 have hc := bcont_ok u l (by omega) hw
 have h1 := headof_ok 3
 unfold wrS
 cases hg : rightS u l with
 | false =>
   rw [hg, if_neg (by simp), if_neg (by simp)] at hc
   rw [if_neg (by simp)]
   refine Ct_intro Tryz.func61 rfl rfl rfl rfl rfl (fun E hn hb => ?_)
   repeat refine nx ?_
   exact rtU []
 | true =>
   rw [hg, if_pos rfl, if_pos rfl] at hc
   rw [if_pos rfl]
   have h2 := wrap_ok (ofT 3) [u :: l] (by decide) (by simp) (by simp; omega)
   rw [show [u :: l].flatten = u :: l by simp] at h2
   refine Ct_intro Tryz.func61 rfl rfl rfl rfl rfl (fun E hn hb => ?_)
   repeat refine nx ?_
   exact rt1 []
theorem rightS_zero (l : List Int) : rightS 0 l = true := by
 unfold rightS
 split
 · simp
 · simp
theorem parS_back {x n : List Int} (h : parS x = (0, n, true)) : x = 0 :: n := by
 unfold parS at h
 match x, h with
 | u :: m, h =>
   dsimp only at h
   by_cases c : rightS u m = true
   · rw [if_pos c] at h
     simp only [Prod.mk.injEq] at h
     rw [h.1, h.2.1]
   · rw [if_neg c] at h; simp at h
theorem bitR_back {l n : List Int} {p q : Nat} (hw : WfB l) (h : bitR l p = (0, n, q, 0)) : l.drop p = wrapL (ofT 3) (0 :: n) ++ l.drop q := by
 unfold bitR at h
 generalize hX : openP l p (ofT 3) = X at *
 obtain ⟨x, q1, e⟩ := X
 dsimp only at *
 by_cases he : e = 0
 · subst he
   rw [if_pos rfl] at h
   by_cases h2 : (parS x).2.2 = true
   · rw [if_pos h2] at h
     simp only [Prod.mk.injEq] at h
     obtain ⟨h3, h4, rfl, _⟩ := h
     have : parS x = (0, n, true) := by rw [← h3, ← h4, ← h2]
     rw [← parS_back this]
     exact (open_back hw hX).2
   · rw [if_neg h2] at h; simp at h
 · rw [if_neg he] at h
   simp only [Prod.mk.injEq] at h
   exact absurd h.2.2.2 he

set_option maxRecDepth 10000
theorem wfl_take {l : List Int} (h : WfB l) (n : Nat) : WfB (l.take n) := fun x hx => h x (List.mem_of_mem_take hx)
end Go.Proofs.YthoaneleeabadaaGreat

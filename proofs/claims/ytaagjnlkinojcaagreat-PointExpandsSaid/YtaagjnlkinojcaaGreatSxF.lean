/-
  Rows of structs whose cells may be ways into blocks of the call's own: literals, appended to, looked into. No condition.
-/
import Derived.Test.YtaagjnlkinojcaaGreatC13
import Derived.Test.YtaagjnlkinojcaaGreatO12
import Derived.Test.YtaagjnlkinojcaaGreatD8
import Derived.Test.YtaagjnlkinojcaaGreatO5
import Derived.Test.YtaagjnlkinojcaaGreatA11
import Derived.Test.YtaagjnlkinojcaaGreatSxQ
namespace Go.Proofs.YtaagjnlkinojcaaGreat
set_option linter.unusedSimpArgs false
set_option linter.unusedVariables false
open Go.Sx
set_option maxRecDepth 10000
theorem z5E {n : Int} (h : 0 ≤ n ∧ n ≤ 2147483647) : inR n = true := by simp [inR]; omega
theorem zct {n : Int} (h : 0 ≤ n ∧ n ≤ 2147483647) : z0N (z2R n) = true := by
 unfold z2R
 by_cases c : n < 80
 · rw [if_pos c, z1m, if_neg (by simp)]
   have h1 : ([n / 40, n % 40] : List Int).all inR = true := by
     simp only [List.all_cons, List.all_nil, Bool.and_true, Bool.and_eq_true]
     exact ⟨z5E (by omega), z5E (by omega)⟩
   rw [if_neg (by rw [h1]; simp), if_pos (by omega)]
   simp; omega
 · rw [if_neg c, z1m, if_neg (by simp)]
   have h1 : ([2, n - 80] : List Int).all inR = true := by
     simp only [List.all_cons, List.all_nil, Bool.and_true, Bool.and_eq_true]
     exact ⟨z5E (by omega), z5E (by omega)⟩
   rw [if_neg (by rw [h1]; simp), if_neg (by omega), if_pos rfl]
   simp; omega
theorem zbg {o : List Int} {n : Int} (ho : z0N o = true) (hl : o.length ≠ 32) (h : 0 ≤ n ∧ n ≤ 2147483647) : z0N (o ++ [n]) = true := by
 match o, ho with
 | a :: b :: t, ho =>
   rw [List.cons_append, List.cons_append, z1m]
   rw [z1m] at ho
   by_cases c1 : 30 < t.length
   · rw [if_pos c1] at ho; cases ho
   · rw [if_neg c1] at ho
     by_cases c2 : (a :: b :: t).all inR = false
     · rw [if_pos c2] at ho; cases ho
     · rw [if_neg c2] at ho
       rw [if_neg (by simp at hl ⊢; omega)]
       have h1 : (a :: b :: (t ++ [n])).all inR = true := by
         rw [Bool.not_eq_false] at c2
         rw [← List.cons_append, ← List.cons_append, List.all_append, c2]
         simp [z5E h]
       rw [if_neg (by rw [h1]; simp)]
       exact ho
theorem z81 (l : List Int) (hw : WfB l) : ∀ (k p : Nat) (o : List Int), l.length - p < k → (z0N o = true ∨ (o = [] ∧ p < l.length)) → (prA k l p o).2 = 0 → z0N (prA k l p o).1 = true
 | 0, p, o, h, _, _ => by omega
 | k + 1, p, o, h, ho, he => by
   unfold prA at he ⊢
   by_cases hp : p < l.length
   · rw [if_pos hp] at he ⊢
     dsimp only at he ⊢
     have hn := (z4X (l.drop p) p 0 true).2.2 (by rw [z1B l p hp]; simp)
     have hr := z5H (l.drop p) p 0 true (by omega) (fun x hx => hw x (List.mem_of_mem_drop hx))
     split at he
     · rename_i h1
       rw [if_pos h1]
       split at he
       · simp at he
       · rename_i h2
         rw [if_neg h2]
         refine z81 l hw k _ _ (by omega) (.inl ?_) he
         rcases ho with ho | ⟨rfl, _⟩
         · have : ¬ o.length = 0 := by
             intro h; rw [List.eq_nil_of_length_eq_zero h] at ho; cases ho
           rw [if_neg this]
           exact zbg ho h2 hr
         · rw [if_pos (by rfl), List.nil_append]
           exact zct hr
     · rename_i h1
       exact absurd he h1
   · rw [if_neg hp]
     rcases ho with ho | ⟨_, h⟩
     · exact ho
     · exact absurd h hp
theorem zbh (l : List Int) (hw : WfB l) (he : (z23 l).2 = 0) : z0N (z23 l).1 = true := by
 unfold z23 at he ⊢
 by_cases h0 : l = []
 · rw [if_pos h0] at he; simp at he
 · rw [if_neg h0] at he ⊢
   have : 0 < l.length := by
     cases l with
     | nil => exact absurd rfl h0
     | cons => simp
   exact z81 l hw _ _ _ (by omega) (.inr ⟨rfl, this⟩) he
theorem z95 {a b : List Int} {x y : Int} (h : a ++ [x] = b ++ [y]) : a = b ∧ x = y := by
 have := List.append_inj' h rfl
 exact ⟨this.1, by simpa using this.2⟩
theorem zab : ∀ (r : List Int) (p : Nat) (n : Int) (f : Bool) (N : Int) (q : Nat), (∀ x ∈ r, 0 ≤ x ∧ x < 256) → 0 ≤ n → n ≤ 2147483647 → nxA r p n f = (N, 0, q) →
   ∃ w r', r = w ++ r' ∧ q = p + w.length ∧ (f = true → n = 0 → z11 N.toNat = w) ∧ (f = false → 0 < n → ∀ L, z11 n.toNat = L ++ [n % 128] → z11 N.toNat = L ++ [n % 128 + 128] ++ w)
 | [], p, n, f, N, q, _, _, _, h => by simp [nxA] at h
 | x :: r, p, n, f, N, q, hw, h0, hm, h => by
   have hx := hw x (List.mem_cons_self ..)
   unfold nxA at h
   by_cases c1 : f = true ∧ x = 128
   · rw [if_pos c1] at h; simp at h
   · rw [if_neg c1] at h
     by_cases c2 : 2147483647 < 128 * n + x % 128
     · rw [if_pos c2] at h; simp at h
     · rw [if_neg c2] at h
       have big : f = false → 0 < n → ∀ L, z11 n.toNat = L ++ [n % 128] → z11 (128 * n + x % 128).toNat = (L ++ [n % 128 + 128]) ++ [x % 128] := by
         intro hf hn L hL
         obtain ⟨L', k1, k2⟩ := z67 (n := (128 * n + x % 128).toNat) (by omega) (by omega)
         have e1 : (128 * n + x % 128).toNat / 128 = n.toNat := by omega
         rw [e1, hL] at k1
         obtain ⟨rfl, e2⟩ := z95 k1
         rw [k2, e1]
         have e3 : ((n.toNat % 128 : Nat) : Int) = n % 128 := by omega
         have e4 : (((128 * n + x % 128).toNat % 128 : Nat) : Int) = x % 128 := by omega
         rw [e3, e4]
       by_cases c3 : x < 128
       · rw [if_pos c3] at h
         simp only [Prod.mk.injEq] at h
         obtain ⟨rfl, _, rfl⟩ := h
         refine ⟨[x], r, rfl, rfl, fun hf hn => ?_, fun hf hn L hL => ?_⟩
         · subst hn
           have : (128 * 0 + x % 128).toNat = x.toNat := by omega
           rw [this, z3Q (by omega)]
           have : ((x.toNat : Nat) : Int) = x := by omega
           rw [this]
         · rw [big hf hn L hL, show x % 128 = x by omega]
       · rw [if_neg c3] at h
         obtain ⟨w, r', e1, e2, _, e4⟩ := zab r (p + 1) (128 * n + x % 128) false N q (fun y hy => hw y (List.mem_cons_of_mem _ hy)) (by omega) (by omega) h
         refine ⟨x :: w, r', by rw [e1]; rfl, by rw [e2]; simp; omega, fun hf hn => ?_, fun hf hn L hL => ?_⟩
         · subst hn
           have hx1 : x ≠ 128 := fun h => c1 ⟨hf, h⟩
           have := e4 rfl (by omega) [] (by rw [z3Q (by omega)]; simp; omega)
           rw [this]
           have e5 : (128 * 0 + x % 128) % 128 + 128 = x := by omega
           rw [e5]
           rfl
         · have := e4 rfl (by omega) (L ++ [n % 128 + 128]) (by rw [big hf hn L hL]; have : (128 * n + x % 128) % 128 = x % 128 := by omega
                                                                rw [this])
           rw [this]
           have e5 : (128 * n + x % 128) % 128 + 128 = x := by omega
           rw [e5]
           simp
theorem zdv {N : Int} (h : 0 ≤ N) : z0P (z2R N) = [N] := by
 unfold z2R
 by_cases c : N < 80
 · rw [if_pos c]
   show [40 * (N / 40) + N % 40] = [N]
   rw [show 40 * (N / 40) + N % 40 = N by omega]
 · rw [if_neg c]
   show [40 * 2 + (N - 80)] = [N]
   rw [show 40 * 2 + (N - 80) = N by omega]
theorem z96 (l : List Int) (hw : WfB l) : ∀ (k p : Nat) (o ro : List Int), l.length - p < k → (o = [] ∨ 2 ≤ o.length) → prA k l p o = (ro, 0) → z0p (z0P ro) = z0p (z0P o) ++ l.drop p
 | 0, p, o, ro, h, _, _ => by omega
 | k + 1, p, o, ro, h, ho, he => by
   unfold prA at he
   by_cases hp : p < l.length
   · rw [if_pos hp] at he
     dsimp only at he
     have hn := (z4X (l.drop p) p 0 true).2.2 (by rw [z1B l p hp]; simp)
     have hr := z5H (l.drop p) p 0 true (by omega) (fun x hx => hw x (List.mem_of_mem_drop hx))
     have hb := zab (l.drop p) p 0 true
     generalize nxA (l.drop p) p 0 true = X at *
     obtain ⟨N, e, q⟩ := X
     dsimp only at *
     by_cases h1 : e = 0
     · subst h1
       rw [if_pos rfl] at he
       obtain ⟨w, r', e1, e2, e3, _⟩ := hb N q (fun x hx => hw x (List.mem_of_mem_drop hx)) (by omega) (by omega) rfl
       have e3 := e3 rfl rfl
       have hdq : l.drop q = r' := by rw [e2, ← List.drop_drop, e1, List.drop_left]
       by_cases h2 : o.length = 32
       · rw [if_pos h2] at he; simp at he
       · rw [if_neg h2] at he
         have ih := z96 l hw k q _ ro (by omega) (.inr ?_) he
         · rw [ih, e1, hdq, ← List.append_assoc]
           congr 1
           rcases ho with rfl | ho
           · rw [if_pos (by rfl), List.nil_append, zdv hr.1]
             show [N].flatMap (fun x => z11 x.toNat) = [] ++ w
             simp [e3]
           · match o, ho with
             | a :: b :: t, _ =>
               rw [if_neg (by simp)]
               show ((40 * a + b) :: (t ++ [N])).flatMap (fun x => z11 x.toNat) = ((40 * a + b) :: t).flatMap (fun x => z11 x.toNat) ++ w
               rw [← List.cons_append, List.flatMap_append]
               simp [e3]
         · rcases ho with rfl | ho
           · rw [if_pos (by rfl)]
             unfold z2R
             split <;> simp
           · rw [if_neg (by omega)]
             simp; omega
     · rw [if_neg h1] at he
       simp only [Prod.mk.injEq] at he
       exact absurd he.2 h1
   · rw [if_neg hp] at he
     simp only [Prod.mk.injEq] at he
     obtain ⟨rfl, _⟩ := he
     rw [List.drop_eq_nil_of_le (by omega), List.append_nil]
theorem zcu {l o : List Int} (hw : WfB l) (h : z23 l = (o, 0)) : z0p (z0P o) = l := by
 unfold z23 at h
 by_cases h0 : l = []
 · rw [if_pos h0] at h; simp at h
 · rw [if_neg h0] at h
   have := z96 l hw _ 0 [] o (by omega) (.inl rfl) h
   rw [this]
   rfl
theorem z97 : ∀ (k N : Nat) (L : List Int), N < k → 0 < N → N ≤ 16777215 → z11 N = L ++ [((N % 128 : Nat) : Int)] → ∀ (r : List Int) (p : Nat), nxA (L ++ ([((N % 128 : Nat) : Int) + 128] ++ r)) p 0 true = nxA r (p + L.length + 1) N false
 | 0, _, _, h, _, _, _ => by omega
 | k + 1, N, L, h, h0, hm, hL => by
   intro r p
   by_cases c : N < 128
   · rw [z3Q c] at hL
     have : L = [] := by
       have := congrArg List.length hL
       simp at this
       exact this
     subst this
     have e : N % 128 = N := Nat.mod_eq_of_lt c
     rw [e]
     show nxA (((N : Int) + 128) :: r) p 0 true = _
     rw [nxA, if_neg (by simp; omega), if_neg (by omega), if_neg (by omega)]
     have e2 : (128 : Int) * 0 + ((N : Int) + 128) % 128 = N := by omega
     rw [e2]
     rfl
   · obtain ⟨L', k1, k2⟩ := z67 c (by omega)
     rw [k2] at hL
     obtain ⟨rfl, _⟩ := z95 hL
     have ih := z97 k (N / 128) L' (by omega) (by omega) (by omega) k1 ([((N % 128 : Nat) : Int) + 128] ++ r) p
     rw [List.append_assoc]
     rw [ih]
     show nxA ((((N % 128 : Nat) : Int) + 128) :: r) _ _ false = _
     rw [nxA, if_neg (by simp), if_neg (by omega), if_neg (by omega)]
     have e2 : (128 : Int) * ((N / 128 : Nat) : Int) + (((N % 128 : Nat) : Int) + 128) % 128 = N := by omega
     rw [e2]
     simp
     rfl
theorem zac {N : Nat} (hm : N ≤ 2147483647) (r : List Int) (p : Nat) : nxA (z11 N ++ r) p 0 true = ((N : Int), 0, p + (z11 N).length) := by
 by_cases c : N < 128
 · rw [z3Q c]
   show nxA ((N : Int) :: r) p 0 true = _
   rw [nxA, if_neg (by simp; omega), if_neg (by omega), if_pos (by omega)]
   have e2 : (128 : Int) * 0 + (N : Int) % 128 = N := by omega
   rw [e2]
   rfl
 · obtain ⟨L', k1, k2⟩ := z67 c (by omega)
   have := z97 (N / 128 + 1) (N / 128) L' (by omega) (by omega) (by omega) k1 ([((N % 128 : Nat) : Int)] ++ r) p
   rw [k2, List.append_assoc, List.append_assoc, this]
   show nxA (((N % 128 : Nat) : Int) :: r) _ _ false = _
   rw [nxA, if_neg (by simp), if_neg (by omega), if_pos (by omega)]
   have e2 : (128 : Int) * ((N / 128 : Nat) : Int) + ((N % 128 : Nat) : Int) % 128 = N := by omega
   rw [e2]
   simp
   omega
theorem z98 (N : Nat) : 0 < (z11 N).length := by simp [z11]
theorem zad (l : List Int) : ∀ (ns : List Int) (k p : Nat) (o : List Int), (∀ x ∈ ns, 0 ≤ x ∧ x ≤ 2147483647) → l.drop p = z0p ns → p ≤ l.length → l.length - p < k → 2 ≤ o.length → o.length + ns.length ≤ 32 → prA k l p o = (o ++ ns, 0)
 | [], k + 1, p, o, hx, hd, hp, hk, ho, hs => by
   have : l.length ≤ p := by simpa [z0p] using hd
   rw [prA, if_neg (by omega), List.append_nil]
 | x :: ns, k + 1, p, o, hx, hd, hp, hk, ho, hs => by
   have hd' : l.drop p = z11 x.toNat ++ z0p ns := hd
   have hlen := congrArg List.length hd'
   have hpos := z98 x.toNat
   have hx0 := hx x (List.mem_cons_self ..)
   rw [List.length_drop, List.length_append] at hlen
   simp only [List.length_cons] at hs
   have hnx := zac (N := x.toNat) (by omega) (z0p ns) p
   have e0 : ((x.toNat : Nat) : Int) = x := by omega
   rw [prA, if_pos (by omega), hd', hnx]
   dsimp only
   rw [if_pos rfl, if_neg (by omega), if_neg (by omega), e0]
   have ih := zad l ns k (p + (z11 x.toNat).length) (o ++ [x]) (fun y hy => hx y (List.mem_cons_of_mem _ hy)) (by rw [← List.drop_drop, hd', List.drop_left]) (by omega) (by omega) (by simp; omega) (by simp; omega)
   rw [ih, List.append_assoc]
   rfl
theorem zdw {o : List Int} (h : z0N o = true) : z23 (z0p (z0P o)) = (o, 0) := by
 obtain ⟨a, b, t, rfl, h1, h2, h3, h4, h5, h6, h7⟩ := z3c h
 have hd : z0p (z0P (a :: b :: t)) = z11 (40 * a + b).toNat ++ z0p t := rfl
 have hpos := z98 (40 * a + b).toNat
 rw [hd]
 have hne : z11 (40 * a + b).toNat ++ z0p t ≠ [] := by
   intro hh
   have := congrArg List.length hh
   simp at this
   rw [this.1] at hpos
   simp at hpos
 unfold z23
 rw [if_neg hne]
 have hnx := zac (N := (40 * a + b).toNat) (by omega) (z0p t) 0
 have e0 : (((40 * a + b).toNat : Nat) : Int) = 40 * a + b := by omega
 have hsp : z2R (40 * a + b) = [a, b] := by
   unfold z2R
   by_cases c : 40 * a + b < 80
   · rw [if_pos c]
     rw [show (40 * a + b) / 40 = a by omega, show (40 * a + b) % 40 = b by omega]
   · rw [if_neg c]
     have : a = 2 := by omega
     subst this
     rw [show (40 : Int) * 2 + b - 80 = b by omega]
 rw [prA, if_pos (by simp; omega), List.drop_zero, hnx]
 dsimp only
 rw [if_pos rfl, if_neg (by simp), if_pos (by rfl), e0, hsp, List.nil_append]
 have := zad (z11 (40 * a + b).toNat ++ z0p t) t ((z11 (40 * a + b).toNat ++ z0p t).length) (0 + (z11 (40 * a + b).toNat).length) [a, b] h6 (by rw [Nat.zero_add, List.drop_left]) (by simp) (by simp; omega) (by simp) (by simp; omega)
 rw [this]
 rfl
theorem zdx (A C : List Int) {o : List Int} (h : z0N o = true) : z3T (A ++ (z0i (ofT 6) (z0p (z0P o)) ++ C)) A.length = (o, A.length + (z0i (ofT 6) (z0p (z0P o))).length, 0) := by
 have hl := z33 h
 unfold z3T
 rw [z6a A (z0p (z0P o)) C (ofT 6) (by decide) (by omega)]
 dsimp only
 rw [if_pos rfl, zdw h]
 rfl
theorem zae : ∀ (k n : Nat), WfB (z2Z k n)
 | 0, n => fun x hx => by simp [z2Z] at hx
 | k + 1, n => fun x hx => by
   unfold z2Z at hx
   split at hx
   · cases hx
   · rcases List.mem_cons.1 hx with rfl | hx
     · omega
     · exact zae k (n / 128) x hx
theorem zf6 (n : Nat) : WfB (z11 n) := fun x hx => by
 unfold z11 at hx
 rw [List.mem_reverse] at hx
 rcases List.mem_cons.1 hx with rfl | hx
 · omega
 · exact zae 5 _ x hx
theorem zdy (l : List Int) : WfB (z0p l) := fun x hx => by
 unfold z0p at hx
 obtain ⟨y, _, hy⟩ := List.mem_flatMap.1 hx
 exact zf6 _ x hy
theorem z7D {a b : List Int} (ha : WfB a) (hb : WfB b) : WfB (a ++ b) := fun x hx => (List.mem_append.1 hx).elim (ha x) (hb x)
theorem z4U (t : z0q) (X : List Int) (h : z0z t = true) (hw : WfB X) : WfB (z0i t X) := by
 have hr : 0 ≤ t.1 ∧ t.1 ≤ 3 ∧ 0 ≤ t.2.1 ∧ t.2.1 < 2097152 := by simp [z0z] at h; omega
 have hfm := z6p h
 have hfi : 0 ≤ z17 t ∧ z17 t ≤ 224 := by
   simp only [List.mem_cons, List.not_mem_nil, or_false] at hfm
   omega
 have hD := z8A 128 (by decide) 5 t.2.1.toNat
 have h2 := z1S 256 5 X.length
 have hL := zc0 256 (by decide) (by decide) 5 X.length
 refine z7D (z7D ?_ ?_) hw
 · unfold tgL
   split
   · intro x hx
     rw [List.mem_singleton.1 hx]
     omega
   · intro x hx
     cases hx with
     | head => omega
     | tail _ hx =>
       unfold hiL at hx
       rcases List.mem_append.1 hx with hx | hx
       · obtain ⟨y, hy, rfl⟩ := List.mem_map.1 hx
         have := hD y (List.mem_reverse.1 (List.mem_of_mem_take hy))
         omega
       · have := hD x (List.mem_reverse.1 (List.mem_of_mem_drop hx))
         omega
 · unfold z10
   split
   · intro x hx
     rw [List.mem_singleton.1 hx]
     omega
   · intro x hx
     cases hx with
     | head => omega
     | tail _ hx => exact hL x (List.mem_reverse.1 hx)

theorem zcv {l o : List Int} {p q : Nat} (hw : WfB l) (h : z3T l p = (o, q, 0)) : z0N o = true ∧ l.drop p = z0i (ofT 6) (z0p (z0P o)) ++ l.drop q := by
 unfold z3T at h
 have hm := z2w l p (ofT 6)
 generalize hX : z0y l p (ofT 6) = X at *
 obtain ⟨x, q1, e⟩ := X
 dsimp only at *
 have hwx : WfB x := fun y hy => hw y (hm.2 y hy)
 by_cases he : e = 0
 · subst he
   rw [if_pos rfl] at h
   have hr := zbh x hwx
   generalize hY : z23 x = Y at *
   obtain ⟨o1, f⟩ := Y
   dsimp only at *
   by_cases hf : f = 0
   · subst hf
     rw [if_pos rfl] at h
     simp only [Prod.mk.injEq] at h
     obtain ⟨rfl, rfl, _⟩ := h
     refine ⟨hr rfl, ?_⟩
     rw [zcu hwx hY]
     exact (z5r hw hX).2
   · rw [if_neg hf] at h
     simp only [Prod.mk.injEq] at h
     exact absurd h.2.2 hf
 · rw [if_neg he] at h
   simp only [Prod.mk.injEq] at h
   exact absurd h.2.2 he
end Go.Proofs.YtaagjnlkinojcaaGreat

namespace Go.Sx
open Go
set_option linter.unusedVariables false
section
variable {P : Program} {E : Env} {ops : Array Oper} {Q : Exit → Act → World → Prop} {rest : List Oper} {o : Oper} {σ : St}
theorem zdz {t e : TypeId} {sz by_ n : Nat} {parts : Array (Nat × Operand)} {ps : List Prop} {out : List Cell} {β : Nat → Option Nat} {F : Nat → Prop} {a : Act} {w : World} (hS : SRb E β F σ a w) (hE : Elt P t e sz by_) (hz : z01 P e)
   (hf : z18 (fun i => some (i * sz, sz)) (List.replicate (n * sz) .un) (parts.toList.map fun (i, x) => (i, ox σ x)) = some (ps, out)) (hp : z03 ps) (hn : n * sz ≤ 16777216) :
   ∃ r : Array Value, (Instr.buildSlice t n (parts.map fun (i, x) => (i, a.eval x))).run P w = .ok (.slice (some ⟨w.heap.size, 0, none⟩) n n) (w.alloc (.cells r e)) ∧ r.size = out.length ∧ ∀ (i : Nat) (y : Cell) (u : Value), out[i]? = some y → r[i]? = some u → CellR β F w y u := by
 obtain ⟨ht, i, z, hi, hz', hsz, hby, hzs⟩ := hE
 let zs : Array Value := (Array.range (n * sz)).map ((if n * sz = 0 then #[] else z.cells)[· % (if n * sz = 0 then (#[] : Array Value) else z.cells).size]!)
 have hzsz : zs.size = n * sz := by simp [zs]
 have hzo : ∀ (j : Nat) (u : Value), zs[j]? = some u → u.oneCell' = true := fun j u hu => by
   have hlt := (Array.getElem?_eq_some_iff.1 hu).1
   rw [hzsz] at hlt
   have hne : n * sz ≠ 0 := by omega
   have hszp : 0 < sz := Nat.pos_of_mul_pos_left (by omega : 0 < n * sz)
   have hm : j % z.cells.size < z.cells.size := Nat.mod_lt _ (by omega)
   have : u = z.cells[j % z.cells.size] := by
     simp only [zs, hne, if_false, Array.getElem?_map, Array.getElem?_range, hlt, if_true, Option.map_some, Option.some.injEq] at hu
     rw [← hu]
     simp [hm]
   rw [this]
   exact List.all_eq_true.1 (hz i z hi hz') _ (by simp)
 have hpl : z4M β F w (parts.toList.map fun (i, x) => (i, ox (σ) x)) (parts.toList.map fun (i, x) => (i, a.eval x)) := z3E hS parts.toList
 obtain ⟨r, g1, g2, g3⟩ := z3i _ _ _ zs ps out hf hp (by simp [hzsz]) (fun j y u hy hu => by
   rw [List.getElem?_replicate] at hy
   split at hy
   · simp at hy; subst hy; exact .un (hzo j u hu)
   · cases hy) hpl
 refine ⟨r, ?_, g2, g3⟩
 have e1 : (parts.map fun (i, x) => (i, a.eval x)).toList = parts.toList.map fun (i, x) => (i, a.eval x) := by simp
 have e2 : ¬ (n * sz > 2 ^ 24) := by omega
 unfold Instr.buildSlice
 simp only [Sem.run_bind, run_underlying ht, Result.andThen_ok, sizeOf, typeInfo, run_program, hi, Sem.run_pure, hsz, e1]
 rw [if_neg e2]
 by_cases h0 : n * sz = 0
 · have : zs = (Array.range (n * sz)).map ((#[] : Array Value)[· % (#[] : Array Value).size]!) := by simp [zs, h0]
   rw [this] at g1
   simp only [h0, if_true, Sem.run_pure, Sem.run_bind, Result.andThen_ok] at g1 ⊢
   rw [g1]
   rfl
 · have : zs = (Array.range (n * sz)).map (z.cells[· % z.cells.size]!) := by simp [zs, h0]
   rw [this] at g1
   simp only [h0, if_false, Sem.run_pure, Sem.run_bind, Result.andThen_ok, zeroValue, typeInfo, run_program, hi, hz']
   rw [g1]
   rfl
end
end Go.Sx

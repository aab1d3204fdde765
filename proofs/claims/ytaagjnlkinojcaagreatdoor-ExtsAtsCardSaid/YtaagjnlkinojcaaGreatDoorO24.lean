/-
  Oids that are read stand as they would be written, and what is written is read as it was. Plain (lines of A12, A20, A23 under other names).
-/
import Derived.Test.YtaagjnlkinojcaaGreatDoorO8
import Derived.Test.YtaagjnlkinojcaaGreatDoorO16
import Derived.Test.YtaagjnlkinojcaaGreatDoorShI
import Derived.Test.YtaagjnlkinojcaaGreatDoorC13
import Derived.Test.YtaagjnlkinojcaaGreatDoorW19
namespace Go.Proofs.YtaagjnlkinojcaaGreatDoor
set_option linter.unusedSimpArgs false
set_option linter.unusedVariables false
open Go.Sx
set_option maxRecDepth 10000
theorem itoa_ok {n : Int} (h : 0 ≤ n ∧ n ≤ 2147483647) : Ct Tryz.prog 118 [lv (.int .i64 n)] [] (lv (.string (refS n))) [] [] := by
 refine ⟨rfl, ⟨_, Tryz.func118, by kernel_rfl, rfl⟩, fun w β F vs hl ha _ _ _ hnone hF hgd => ?_⟩
 obtain ⟨v, rfl⟩ : ∃ v, vs = [v] := by
   match vs, hl with
   | [v], _ => exact ⟨v, rfl⟩
 have h0 := ha 0 _ v rfl rfl
 have hv : v = .int .i64 n := by cases h0 with | c h0 => cases h0 with | lf h0 => cases h0 with | v _ h0 => rfl
 subst hv
 obtain ⟨_, t0, fr0, hg⟩ := hgd _ (List.mem_singleton.2 rfl)
 have hT : Lib.TabIs Tryz.prog w "internal/strconv.uint64pow10" .u64 Lib.pow10Tab := by
   unfold Lib.TabIs World.var?
   rw [show Tryz.prog.globalNamed "internal/strconv.uint64pow10" = some gdN by kernel_rfl]
   simp only [Option.bind_some]
   rw [hg]
 refine (Tryz.strconv_Itoa n (by omega) (by omega) w hT).mono fun e w' hq => ?_
 obtain ⟨rfl, k, os, rfl⟩ := hq
 rw [itoa_ref h]
 have hblk : ∀ g, g < w.heap.size → (Go.Sort.grow (w.drewN k) os).heap[g]? = w.heap[g]? := fun g hg => by
   show (w.heap ++ os)[g]? = w.heap[g]?
   rw [Array.getElem?_append_left hg]
 have hsz : w.heap.size ≤ (Go.Sort.grow (w.drewN k) os).heap.size := by
   show w.heap.size ≤ (w.heap ++ os).size
   rw [Array.size_append]; omega
 refine ⟨_, β, F, rfl, .c (.lf (.v _ rfl)), fun i b h => by simp at h, fun i b h => by simp at h, fun i hi => rfl, fun i j g hi => absurd hi (by simp), fun j g hj => absurd hj (by simp), fun i g hi => absurd hi (by simp), fun b hb => ⟨Nat.lt_of_lt_of_le (hF b hb) hsz, .inl hb⟩, ⟨rfl, rfl, rfl, hsz, fun g hg _ => hblk g hg, fun g n hc => hc.same (hblk g hc.lt)⟩⟩
theorem otext_ok (o : List Int) (hr : rightO o = true) :
   Ct Tryz.prog 95 [I64 o] [] (.tup [lv (.string (strOfNums (textO refS o))), lv (.int .i64 0)]) [] [] :=
 text_of refS refS_size refS_pos o hr fun x hx => itoa_ok (right_in hr x hx)

theorem inR_ofV {n : Int} (h : 0 ≤ n ∧ n ≤ 2147483647) : inR n = true := by simp [inR]; omega
theorem spl_rightV {n : Int} (h : 0 ≤ n ∧ n ≤ 2147483647) : rightO (splA n) = true := by
 unfold splA
 by_cases c : n < 80
 · rw [if_pos c, rightO_cons, if_neg (by simp)]
   have h1 : ([n / 40, n % 40] : List Int).all inR = true := by
     simp only [List.all_cons, List.all_nil, Bool.and_true, Bool.and_eq_true]
     exact ⟨inR_ofV (by omega), inR_ofV (by omega)⟩
   rw [if_neg (by rw [h1]; simp), if_pos (by omega)]
   simp; omega
 · rw [if_neg c, rightO_cons, if_neg (by simp)]
   have h1 : ([2, n - 80] : List Int).all inR = true := by
     simp only [List.all_cons, List.all_nil, Bool.and_true, Bool.and_eq_true]
     exact ⟨inR_ofV (by omega), inR_ofV (by omega)⟩
   rw [if_neg (by rw [h1]; simp), if_neg (by omega), if_pos rfl]
   simp; omega
theorem right_snocV {o : List Int} {n : Int} (ho : rightO o = true) (hl : o.length ≠ 32) (h : 0 ≤ n ∧ n ≤ 2147483647) : rightO (o ++ [n]) = true := by
 match o, ho with
 | a :: b :: t, ho =>
   rw [List.cons_append, List.cons_append, rightO_cons]
   rw [rightO_cons] at ho
   by_cases c1 : 30 < t.length
   · rw [if_pos c1] at ho; cases ho
   · rw [if_neg c1] at ho
     by_cases c2 : (a :: b :: t).all inR = false
     · rw [if_pos c2] at ho; cases ho
     · rw [if_neg c2] at ho
       rw [if_neg (by simp at hl ⊢; omega)]
       have h1 : (a :: b :: (t ++ [n])).all inR = true := by
         rw [Bool.not_eq_false] at c2
         rw [← List.cons_append, ← List.cons_append, List.all_append, c2]
         simp [inR_ofV h]
       rw [if_neg (by rw [h1]; simp)]
       exact ho
theorem prA_rightV (l : List Int) (hw : WfB l) : ∀ (k p : Nat) (o : List Int), l.length - p < k → (rightO o = true ∨ (o = [] ∧ p < l.length)) → (prA k l p o).2 = 0 → rightO (prA k l p o).1 = true
 | 0, p, o, h, _, _ => by omega
 | k + 1, p, o, h, ho, he => by
   unfold prA at he ⊢
   by_cases hp : p < l.length
   · rw [if_pos hp] at he ⊢
     dsimp only at he ⊢
     have hn := (nxA_le (l.drop p) p 0 true).2.2 (by rw [drop_at l p hp]; simp)
     have hr := nxA_rng (l.drop p) p 0 true (by omega) (fun x hx => hw x (List.mem_of_mem_drop hx))
     split at he
     · rename_i h1
       rw [if_pos h1]
       split at he
       · simp at he
       · rename_i h2
         rw [if_neg h2]
         refine prA_rightV l hw k _ _ (by omega) (.inl ?_) he
         rcases ho with ho | ⟨rfl, _⟩
         · have : ¬ o.length = 0 := by
             intro h; rw [List.eq_nil_of_length_eq_zero h] at ho; cases ho
           rw [if_neg this]
           exact right_snocV ho h2 hr
         · rw [if_pos (by rfl), List.nil_append]
           exact spl_rightV hr
     · rename_i h1
       exact absurd he h1
   · rw [if_neg hp]
     rcases ho with ho | ⟨_, h⟩
     · exact ho
     · exact absurd h hp
theorem oidP_rightV (l : List Int) (hw : WfB l) (he : (oidP l).2 = 0) : rightO (oidP l).1 = true := by
 unfold oidP at he ⊢
 by_cases h0 : l = []
 · rw [if_pos h0] at he; simp at he
 · rw [if_neg h0] at he ⊢
   have : 0 < l.length := by
     cases l with
     | nil => exact absurd rfl h0
     | cons => simp
   exact prA_rightV l hw _ _ _ (by omega) (.inr ⟨rfl, this⟩) he
theorem snoc_injV {a b : List Int} {x y : Int} (h : a ++ [x] = b ++ [y]) : a = b ∧ x = y := by
 have := List.append_inj' h rfl
 exact ⟨this.1, by simpa using this.2⟩
theorem nx_backV : ∀ (r : List Int) (p : Nat) (n : Int) (f : Bool) (N : Int) (q : Nat), (∀ x ∈ r, 0 ≤ x ∧ x < 256) → 0 ≤ n → n ≤ 2147483647 → nxA r p n f = (N, 0, q) →
   ∃ w r', r = w ++ r' ∧ q = p + w.length ∧ (f = true → n = 0 → arcL N.toNat = w) ∧ (f = false → 0 < n → ∀ L, arcL n.toNat = L ++ [n % 128] → arcL N.toNat = L ++ [n % 128 + 128] ++ w)
 | [], p, n, f, N, q, _, _, _, h => by simp [nxA] at h
 | x :: r, p, n, f, N, q, hw, h0, hm, h => by
   have hx := hw x (List.mem_cons_self ..)
   unfold nxA at h
   by_cases c1 : f = true ∧ x = 128
   · rw [if_pos c1] at h; simp at h
   · rw [if_neg c1] at h
     by_cases c2 : 2147483647 < 128 * n + x % 128
     · rw [if_pos c2] at h; simp at h
     · rw [if_neg c2] at h
       have big : f = false → 0 < n → ∀ L, arcL n.toNat = L ++ [n % 128] → arcL (128 * n + x % 128).toNat = (L ++ [n % 128 + 128]) ++ [x % 128] := by
         intro hf hn L hL
         obtain ⟨L', k1, k2⟩ := arcL_big (n := (128 * n + x % 128).toNat) (by omega) (by omega)
         have e1 : (128 * n + x % 128).toNat / 128 = n.toNat := by omega
         rw [e1, hL] at k1
         obtain ⟨rfl, e2⟩ := snoc_injV k1
         rw [k2, e1]
         have e3 : ((n.toNat % 128 : Nat) : Int) = n % 128 := by omega
         have e4 : (((128 * n + x % 128).toNat % 128 : Nat) : Int) = x % 128 := by omega
         rw [e3, e4]
       by_cases c3 : x < 128
       · rw [if_pos c3] at h
         simp only [Prod.mk.injEq] at h
         obtain ⟨rfl, _, rfl⟩ := h
         refine ⟨[x], r, rfl, rfl, fun hf hn => ?_, fun hf hn L hL => ?_⟩
         · subst hn
           have : (128 * 0 + x % 128).toNat = x.toNat := by omega
           rw [this, arcL_small (by omega)]
           have : ((x.toNat : Nat) : Int) = x := by omega
           rw [this]
         · rw [big hf hn L hL, show x % 128 = x by omega]
       · rw [if_neg c3] at h
         obtain ⟨w, r', e1, e2, _, e4⟩ := nx_backV r (p + 1) (128 * n + x % 128) false N q (fun y hy => hw y (List.mem_cons_of_mem _ hy)) (by omega) (by omega) h
         refine ⟨x :: w, r', by rw [e1]; rfl, by rw [e2]; simp; omega, fun hf hn => ?_, fun hf hn L hL => ?_⟩
         · subst hn
           have hx1 : x ≠ 128 := fun h => c1 ⟨hf, h⟩
           have := e4 rfl (by omega) [] (by rw [arcL_small (by omega)]; simp; omega)
           rw [this]
           have e5 : (128 * 0 + x % 128) % 128 + 128 = x := by omega
           rw [e5]
           rfl
         · have := e4 rfl (by omega) (L ++ [n % 128 + 128]) (by rw [big hf hn L hL]; have : (128 * n + x % 128) % 128 = x % 128 := by omega
                                                                rw [this])
           rw [this]
           have e5 : (128 * n + x % 128) % 128 + 128 = x := by omega
           rw [e5]
           simp
theorem nums_splV {N : Int} (h : 0 ≤ N) : numsL (splA N) = [N] := by
 unfold splA
 by_cases c : N < 80
 · rw [if_pos c]
   show [40 * (N / 40) + N % 40] = [N]
   rw [show 40 * (N / 40) + N % 40 = N by omega]
 · rw [if_neg c]
   show [40 * 2 + (N - 80)] = [N]
   rw [show 40 * 2 + (N - 80) = N by omega]
theorem prA_backV (l : List Int) (hw : WfB l) : ∀ (k p : Nat) (o ro : List Int), l.length - p < k → (o = [] ∨ 2 ≤ o.length) → prA k l p o = (ro, 0) → arcsL (numsL ro) = arcsL (numsL o) ++ l.drop p
 | 0, p, o, ro, h, _, _ => by omega
 | k + 1, p, o, ro, h, ho, he => by
   unfold prA at he
   by_cases hp : p < l.length
   · rw [if_pos hp] at he
     dsimp only at he
     have hn := (nxA_le (l.drop p) p 0 true).2.2 (by rw [drop_at l p hp]; simp)
     have hr := nxA_rng (l.drop p) p 0 true (by omega) (fun x hx => hw x (List.mem_of_mem_drop hx))
     have hb := nx_backV (l.drop p) p 0 true
     generalize nxA (l.drop p) p 0 true = X at *
     obtain ⟨N, e, q⟩ := X
     dsimp only at *
     by_cases h1 : e = 0
     · subst h1
       rw [if_pos rfl] at he
       obtain ⟨w, r', e1, e2, e3, _⟩ := hb N q (fun x hx => hw x (List.mem_of_mem_drop hx)) (by omega) (by omega) rfl
       have e3 := e3 rfl rfl
       have hdq : l.drop q = r' := by rw [e2, ← List.drop_drop, e1, List.drop_left]
       by_cases h2 : o.length = 32
       · rw [if_pos h2] at he; simp at he
       · rw [if_neg h2] at he
         have ih := prA_backV l hw k q _ ro (by omega) (.inr ?_) he
         · rw [ih, e1, hdq, ← List.append_assoc]
           congr 1
           rcases ho with rfl | ho
           · rw [if_pos (by rfl), List.nil_append, nums_splV hr.1]
             show [N].flatMap (fun x => arcL x.toNat) = [] ++ w
             simp [e3]
           · match o, ho with
             | a :: b :: t, _ =>
               rw [if_neg (by simp)]
               show ((40 * a + b) :: (t ++ [N])).flatMap (fun x => arcL x.toNat) = ((40 * a + b) :: t).flatMap (fun x => arcL x.toNat) ++ w
               rw [← List.cons_append, List.flatMap_append]
               simp [e3]
         · rcases ho with rfl | ho
           · rw [if_pos (by rfl)]
             unfold splA
             split <;> simp
           · rw [if_neg (by omega)]
             simp; omega
     · rw [if_neg h1] at he
       simp only [Prod.mk.injEq] at he
       exact absurd he.2 h1
   · rw [if_neg hp] at he
     simp only [Prod.mk.injEq] at he
     obtain ⟨rfl, _⟩ := he
     rw [List.drop_eq_nil_of_le (by omega), List.append_nil]
theorem oidP_backV {l o : List Int} (hw : WfB l) (h : oidP l = (o, 0)) : arcsL (numsL o) = l := by
 unfold oidP at h
 by_cases h0 : l = []
 · rw [if_pos h0] at h; simp at h
 · rw [if_neg h0] at h
   have := prA_backV l hw _ 0 [] o (by omega) (.inl rfl) h
   rw [this]
   rfl
theorem nxA_moreV : ∀ (k N : Nat) (L : List Int), N < k → 0 < N → N ≤ 16777215 → arcL N = L ++ [((N % 128 : Nat) : Int)] → ∀ (r : List Int) (p : Nat), nxA (L ++ ([((N % 128 : Nat) : Int) + 128] ++ r)) p 0 true = nxA r (p + L.length + 1) N false
 | 0, _, _, h, _, _, _ => by omega
 | k + 1, N, L, h, h0, hm, hL => by
   intro r p
   by_cases c : N < 128
   · rw [arcL_small c] at hL
     have : L = [] := by
       have := congrArg List.length hL
       simp at this
       exact this
     subst this
     have e : N % 128 = N := Nat.mod_eq_of_lt c
     rw [e]
     show nxA (((N : Int) + 128) :: r) p 0 true = _
     rw [nxA, if_neg (by simp; omega), if_neg (by omega), if_neg (by omega)]
     have e2 : (128 : Int) * 0 + ((N : Int) + 128) % 128 = N := by omega
     rw [e2]
     rfl
   · obtain ⟨L', k1, k2⟩ := arcL_big c (by omega)
     rw [k2] at hL
     obtain ⟨rfl, _⟩ := snoc_injV hL
     have ih := nxA_moreV k (N / 128) L' (by omega) (by omega) (by omega) k1 ([((N % 128 : Nat) : Int) + 128] ++ r) p
     rw [List.append_assoc]
     rw [ih]
     show nxA ((((N % 128 : Nat) : Int) + 128) :: r) _ _ false = _
     rw [nxA, if_neg (by simp), if_neg (by omega), if_neg (by omega)]
     have e2 : (128 : Int) * ((N / 128 : Nat) : Int) + (((N % 128 : Nat) : Int) + 128) % 128 = N := by omega
     rw [e2]
     simp
     rfl
theorem nxA_fwdV {N : Nat} (hm : N ≤ 2147483647) (r : List Int) (p : Nat) : nxA (arcL N ++ r) p 0 true = ((N : Int), 0, p + (arcL N).length) := by
 by_cases c : N < 128
 · rw [arcL_small c]
   show nxA ((N : Int) :: r) p 0 true = _
   rw [nxA, if_neg (by simp; omega), if_neg (by omega), if_pos (by omega)]
   have e2 : (128 : Int) * 0 + (N : Int) % 128 = N := by omega
   rw [e2]
   rfl
 · obtain ⟨L', k1, k2⟩ := arcL_big c (by omega)
   have := nxA_moreV (N / 128 + 1) (N / 128) L' (by omega) (by omega) (by omega) k1 ([((N % 128 : Nat) : Int)] ++ r) p
   rw [k2, List.append_assoc, List.append_assoc, this]
   show nxA (((N % 128 : Nat) : Int) :: r) _ _ false = _
   rw [nxA, if_neg (by simp), if_neg (by omega), if_pos (by omega)]
   have e2 : (128 : Int) * ((N / 128 : Nat) : Int) + ((N % 128 : Nat) : Int) % 128 = N := by omega
   rw [e2]
   simp
   omega
theorem arcL_posV (N : Nat) : 0 < (arcL N).length := by simp [arcL]
theorem prA_fwdV (l : List Int) : ∀ (ns : List Int) (k p : Nat) (o : List Int), (∀ x ∈ ns, 0 ≤ x ∧ x ≤ 2147483647) → l.drop p = arcsL ns → p ≤ l.length → l.length - p < k → 2 ≤ o.length → o.length + ns.length ≤ 32 → prA k l p o = (o ++ ns, 0)
 | [], k + 1, p, o, hx, hd, hp, hk, ho, hs => by
   have : l.length ≤ p := by simpa [arcsL] using hd
   rw [prA, if_neg (by omega), List.append_nil]
 | x :: ns, k + 1, p, o, hx, hd, hp, hk, ho, hs => by
   have hd' : l.drop p = arcL x.toNat ++ arcsL ns := hd
   have hlen := congrArg List.length hd'
   have hpos := arcL_posV x.toNat
   have hx0 := hx x (List.mem_cons_self ..)
   rw [List.length_drop, List.length_append] at hlen
   simp only [List.length_cons] at hs
   have hnx := nxA_fwdV (N := x.toNat) (by omega) (arcsL ns) p
   have e0 : ((x.toNat : Nat) : Int) = x := by omega
   rw [prA, if_pos (by omega), hd', hnx]
   dsimp only
   rw [if_pos rfl, if_neg (by omega), if_neg (by omega), e0]
   have ih := prA_fwdV l ns k (p + (arcL x.toNat).length) (o ++ [x]) (fun y hy => hx y (List.mem_cons_of_mem _ hy)) (by rw [← List.drop_drop, hd', List.drop_left]) (by omega) (by omega) (by simp; omega) (by simp; omega)
   rw [ih, List.append_assoc]
   rfl
theorem oidP_fwdV {o : List Int} (h : rightO o = true) : oidP (arcsL (numsL o)) = (o, 0) := by
 obtain ⟨a, b, t, rfl, h1, h2, h3, h4, h5, h6, h7⟩ := right_nums h
 have hd : arcsL (numsL (a :: b :: t)) = arcL (40 * a + b).toNat ++ arcsL t := rfl
 have hpos := arcL_posV (40 * a + b).toNat
 rw [hd]
 have hne : arcL (40 * a + b).toNat ++ arcsL t ≠ [] := by
   intro hh
   have := congrArg List.length hh
   simp at this
   rw [this.1] at hpos
   simp at hpos
 unfold oidP
 rw [if_neg hne]
 have hnx := nxA_fwdV (N := (40 * a + b).toNat) (by omega) (arcsL t) 0
 have e0 : (((40 * a + b).toNat : Nat) : Int) = 40 * a + b := by omega
 have hsp : splA (40 * a + b) = [a, b] := by
   unfold splA
   by_cases c : 40 * a + b < 80
   · rw [if_pos c]
     rw [show (40 * a + b) / 40 = a by omega, show (40 * a + b) % 40 = b by omega]
   · rw [if_neg c]
     have : a = 2 := by omega
     subst this
     rw [show (40 : Int) * 2 + b - 80 = b by omega]
 rw [prA, if_pos (by simp; omega), List.drop_zero, hnx]
 dsimp only
 rw [if_pos rfl, if_neg (by simp), if_pos (by rfl), e0, hsp, List.nil_append]
 have := prA_fwdV (arcL (40 * a + b).toNat ++ arcsL t) t ((arcL (40 * a + b).toNat ++ arcsL t).length) (0 + (arcL (40 * a + b).toNat).length) [a, b] h6 (by rw [Nat.zero_add, List.drop_left]) (by simp) (by simp; omega) (by simp) (by simp; omega)
 rw [this]
 rfl
theorem oidR_fwdV (A C : List Int) {o : List Int} (h : rightO o = true) : oidR (A ++ (wrapL (ofT 6) (arcsL (numsL o)) ++ C)) A.length = (o, A.length + (wrapL (ofT 6) (arcsL (numsL o))).length, 0) := by
 have hl := conO_len h
 unfold oidR
 rw [openP_at A (arcsL (numsL o)) C (ofT 6) (by decide) (by omega)]
 dsimp only
 rw [if_pos rfl, oidP_fwdV h]
 rfl
theorem arcT_wfV : ∀ (k n : Nat), WfB (arcT k n)
 | 0, n => fun x hx => by simp [arcT] at hx
 | k + 1, n => fun x hx => by
   unfold arcT at hx
   split at hx
   · cases hx
   · rcases List.mem_cons.1 hx with rfl | hx
     · omega
     · exact arcT_wfV k (n / 128) x hx
theorem arcL_wfV (n : Nat) : WfB (arcL n) := fun x hx => by
 unfold arcL at hx
 rw [List.mem_reverse] at hx
 rcases List.mem_cons.1 hx with rfl | hx
 · omega
 · exact arcT_wfV 5 _ x hx
theorem arcsL_wfV (l : List Int) : WfB (arcsL l) := fun x hx => by
 unfold arcsL at hx
 obtain ⟨y, _, hy⟩ := List.mem_flatMap.1 hx
 exact arcL_wfV _ x hy
theorem wfB_appV {a b : List Int} (ha : WfB a) (hb : WfB b) : WfB (a ++ b) := fun x hx => (List.mem_append.1 hx).elim (ha x) (hb x)
theorem wrap_wfV (t : TagP) (X : List Int) (h : rightT t = true) (hw : WfB X) : WfB (wrapL t X) := by
 have hr : 0 ≤ t.1 ∧ t.1 ≤ 3 ∧ 0 ≤ t.2.1 ∧ t.2.1 < 2097152 := by simp [rightT] at h; omega
 have hfm := first_mem h
 have hfi : 0 ≤ firstI t ∧ firstI t ≤ 224 := by
   simp only [List.mem_cons, List.not_mem_nil, or_false] at hfm
   omega
 have hD := lowD_lt 128 (by decide) 5 t.2.1.toNat
 have h2 := lowD_len 256 5 X.length
 have hL := lowD_wf 256 (by decide) (by decide) 5 X.length
 refine wfB_appV (wfB_appV ?_ ?_) hw
 · unfold tgL
   split
   · intro x hx
     rw [List.mem_singleton.1 hx]
     omega
   · intro x hx
     cases hx with
     | head => omega
     | tail _ hx =>
       unfold hiL at hx
       rcases List.mem_append.1 hx with hx | hx
       · obtain ⟨y, hy, rfl⟩ := List.mem_map.1 hx
         have := hD y (List.mem_reverse.1 (List.mem_of_mem_take hy))
         omega
       · have := hD x (List.mem_reverse.1 (List.mem_of_mem_drop hx))
         omega
 · unfold lenL
   split
   · intro x hx
     rw [List.mem_singleton.1 hx]
     omega
   · intro x hx
     cases hx with
     | head => omega
     | tail _ hx => exact hL x (List.mem_reverse.1 hx)
end Go.Proofs.YtaagjnlkinojcaaGreatDoor

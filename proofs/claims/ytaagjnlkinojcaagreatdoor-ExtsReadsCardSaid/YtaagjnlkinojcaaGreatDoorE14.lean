/-
  Chapter 17: extensions that are read: how far, and what they are; there and back. Plain. The conditions: bytes.
-/
import Derived.Test.YtaagjnlkinojcaaGreatDoorE3
import Derived.Test.YtaagjnlkinojcaaGreatDoorO16
import Derived.Test.YtaagjnlkinojcaaGreatDoorShI
import Derived.Test.YtaagjnlkinojcaaGreatDoorA4
import Derived.Test.YtaagjnlkinojcaaGreatDoorW16
import Derived.Test.YtaagjnlkinojcaaGreatDoorO6
import Derived.Test.YtaagjnlkinojcaaGreatDoorSxX
import Derived.Test.YtaagjnlkinojcaaGreatDoorSxQ
namespace Go.Proofs.YtaagjnlkinojcaaGreatDoor
set_option linter.unusedSimpArgs false
set_option linter.unusedVariables false
open Go.Sx
set_option maxRecDepth 10000
theorem itoa_ok {n : Int} (h : 0 ≤ n ∧ n ≤ 2147483647) : Ct Tryz.prog 118 [lv (.int .i64 n)] [] (lv (.string (refS n))) [] [] := by
 refine ⟨rfl, ⟨_, Tryz.func118, by kernel_rfl, rfl⟩, fun w β F vs hl ha _ _ _ hnone hF hgd => ?_⟩
 obtain ⟨v, rfl⟩ : ∃ v, vs = [v] := by
   match vs, hl with
   | [v], _ => exact ⟨v, rfl⟩
 have h0 := ha 0 _ v rfl rfl
 have hv : v = .int .i64 n := by cases h0 with | c h0 => cases h0 with | lf h0 => cases h0 with | v _ h0 => rfl
 subst hv
 obtain ⟨_, t0, fr0, hg⟩ := hgd _ (List.mem_singleton.2 rfl)
 have hT : Lib.TabIs Tryz.prog w "internal/strconv.uint64pow10" .u64 Lib.pow10Tab := by
   unfold Lib.TabIs World.var?
   rw [show Tryz.prog.globalNamed "internal/strconv.uint64pow10" = some gdN by kernel_rfl]
   simp only [Option.bind_some]
   rw [hg]
 refine (Tryz.strconv_Itoa n (by omega) (by omega) w hT).mono fun e w' hq => ?_
 obtain ⟨rfl, k, os, rfl⟩ := hq
 rw [itoa_ref h]
 have hblk : ∀ g, g < w.heap.size → (Go.Sort.grow (w.drewN k) os).heap[g]? = w.heap[g]? := fun g hg => by
   show (w.heap ++ os)[g]? = w.heap[g]?
   rw [Array.getElem?_append_left hg]
 have hsz : w.heap.size ≤ (Go.Sort.grow (w.drewN k) os).heap.size := by
   show w.heap.size ≤ (w.heap ++ os).size
   rw [Array.size_append]; omega
 refine ⟨_, β, F, rfl, .c (.lf (.v _ rfl)), fun i b h => by simp at h, fun i b h => by simp at h, fun i hi => rfl, fun i j g hi => absurd hi (by simp), fun j g hj => absurd hj (by simp), fun i g hi => absurd hi (by simp), fun b hb => ⟨Nat.lt_of_lt_of_le (hF b hb) hsz, .inl hb⟩, ⟨rfl, rfl, rfl, hsz, fun g hg _ => hblk g hg, fun g n hc => hc.same (hblk g hc.lt)⟩⟩
theorem otext_ok (o : List Int) (hr : rightO o = true) :
   Ct Tryz.prog 95 [I64 o] [] (.tup [lv (.string (strOfNums (textO refS o))), lv (.int .i64 0)]) [] [] :=
 text_of refS refS_size refS_pos o hr fun x hx => itoa_ok (right_in hr x hx)

theorem inR_ofV {n : Int} (h : 0 ≤ n ∧ n ≤ 2147483647) : inR n = true := by simp [inR]; omega
theorem spl_rightV {n : Int} (h : 0 ≤ n ∧ n ≤ 2147483647) : rightO (splA n) = true := by
 unfold splA
 by_cases c : n < 80
 · rw [if_pos c, rightO_cons, if_neg (by simp)]
   have h1 : ([n / 40, n % 40] : List Int).all inR = true := by
     simp only [List.all_cons, List.all_nil, Bool.and_true, Bool.and_eq_true]
     exact ⟨inR_ofV (by omega), inR_ofV (by omega)⟩
   rw [if_neg (by rw [h1]; simp), if_pos (by omega)]
   simp; omega
 · rw [if_neg c, rightO_cons, if_neg (by simp)]
   have h1 : ([2, n - 80] : List Int).all inR = true := by
     simp only [List.all_cons, List.all_nil, Bool.and_true, Bool.and_eq_true]
     exact ⟨inR_ofV (by omega), inR_ofV (by omega)⟩
   rw [if_neg (by rw [h1]; simp), if_neg (by omega), if_pos rfl]
   simp; omega
theorem right_snocV {o : List Int} {n : Int} (ho : rightO o = true) (hl : o.length ≠ 32) (h : 0 ≤ n ∧ n ≤ 2147483647) : rightO (o ++ [n]) = true := by
 match o, ho with
 | a :: b :: t, ho =>
   rw [List.cons_append, List.cons_append, rightO_cons]
   rw [rightO_cons] at ho
   by_cases c1 : 30 < t.length
   · rw [if_pos c1] at ho; cases ho
   · rw [if_neg c1] at ho
     by_cases c2 : (a :: b :: t).all inR = false
     · rw [if_pos c2] at ho; cases ho
     · rw [if_neg c2] at ho
       rw [if_neg (by simp at hl ⊢; omega)]
       have h1 : (a :: b :: (t ++ [n])).all inR = true := by
         rw [Bool.not_eq_false] at c2
         rw [← List.cons_append, ← List.cons_append, List.all_append, c2]
         simp [inR_ofV h]
       rw [if_neg (by rw [h1]; simp)]
       exact ho
theorem prA_rightV (l : List Int) (hw : WfB l) : ∀ (k p : Nat) (o : List Int), l.length - p < k → (rightO o = true ∨ (o = [] ∧ p < l.length)) → (prA k l p o).2 = 0 → rightO (prA k l p o).1 = true
 | 0, p, o, h, _, _ => by omega
 | k + 1, p, o, h, ho, he => by
   unfold prA at he ⊢
   by_cases hp : p < l.length
   · rw [if_pos hp] at he ⊢
     dsimp only at he ⊢
     have hn := (nxA_le (l.drop p) p 0 true).2.2 (by rw [drop_at l p hp]; simp)
     have hr := nxA_rng (l.drop p) p 0 true (by omega) (fun x hx => hw x (List.mem_of_mem_drop hx))
     split at he
     · rename_i h1
       rw [if_pos h1]
       split at he
       · simp at he
       · rename_i h2
         rw [if_neg h2]
         refine prA_rightV l hw k _ _ (by omega) (.inl ?_) he
         rcases ho with ho | ⟨rfl, _⟩
         · have : ¬ o.length = 0 := by
             intro h; rw [List.eq_nil_of_length_eq_zero h] at ho; cases ho
           rw [if_neg this]
           exact right_snocV ho h2 hr
         · rw [if_pos (by rfl), List.nil_append]
           exact spl_rightV hr
     · rename_i h1
       exact absurd he h1
   · rw [if_neg hp]
     rcases ho with ho | ⟨_, h⟩
     · exact ho
     · exact absurd h hp
theorem oidP_rightV (l : List Int) (hw : WfB l) (he : (oidP l).2 = 0) : rightO (oidP l).1 = true := by
 unfold oidP at he ⊢
 by_cases h0 : l = []
 · rw [if_pos h0] at he; simp at he
 · rw [if_neg h0] at he ⊢
   have : 0 < l.length := by
     cases l with
     | nil => exact absurd rfl h0
     | cons => simp
   exact prA_rightV l hw _ _ _ (by omega) (.inr ⟨rfl, this⟩) he
theorem snoc_injV {a b : List Int} {x y : Int} (h : a ++ [x] = b ++ [y]) : a = b ∧ x = y := by
 have := List.append_inj' h rfl
 exact ⟨this.1, by simpa using this.2⟩
theorem nx_backV : ∀ (r : List Int) (p : Nat) (n : Int) (f : Bool) (N : Int) (q : Nat), (∀ x ∈ r, 0 ≤ x ∧ x < 256) → 0 ≤ n → n ≤ 2147483647 → nxA r p n f = (N, 0, q) →
   ∃ w r', r = w ++ r' ∧ q = p + w.length ∧ (f = true → n = 0 → arcL N.toNat = w) ∧ (f = false → 0 < n → ∀ L, arcL n.toNat = L ++ [n % 128] → arcL N.toNat = L ++ [n % 128 + 128] ++ w)
 | [], p, n, f, N, q, _, _, _, h => by simp [nxA] at h
 | x :: r, p, n, f, N, q, hw, h0, hm, h => by
   have hx := hw x (List.mem_cons_self ..)
   unfold nxA at h
   by_cases c1 : f = true ∧ x = 128
   · rw [if_pos c1] at h; simp at h
   · rw [if_neg c1] at h
     by_cases c2 : 2147483647 < 128 * n + x % 128
     · rw [if_pos c2] at h; simp at h
     · rw [if_neg c2] at h
       have big : f = false → 0 < n → ∀ L, arcL n.toNat = L ++ [n % 128] → arcL (128 * n + x % 128).toNat = (L ++ [n % 128 + 128]) ++ [x % 128] := by
         intro hf hn L hL
         obtain ⟨L', k1, k2⟩ := arcL_big (n := (128 * n + x % 128).toNat) (by omega) (by omega)
         have e1 : (128 * n + x % 128).toNat / 128 = n.toNat := by omega
         rw [e1, hL] at k1
         obtain ⟨rfl, e2⟩ := snoc_injV k1
         rw [k2, e1]
         have e3 : ((n.toNat % 128 : Nat) : Int) = n % 128 := by omega
         have e4 : (((128 * n + x % 128).toNat % 128 : Nat) : Int) = x % 128 := by omega
         rw [e3, e4]
       by_cases c3 : x < 128
       · rw [if_pos c3] at h
         simp only [Prod.mk.injEq] at h
         obtain ⟨rfl, _, rfl⟩ := h
         refine ⟨[x], r, rfl, rfl, fun hf hn => ?_, fun hf hn L hL => ?_⟩
         · subst hn
           have : (128 * 0 + x % 128).toNat = x.toNat := by omega
           rw [this, arcL_small (by omega)]
           have : ((x.toNat : Nat) : Int) = x := by omega
           rw [this]
         · rw [big hf hn L hL, show x % 128 = x by omega]
       · rw [if_neg c3] at h
         obtain ⟨w, r', e1, e2, _, e4⟩ := nx_backV r (p + 1) (128 * n + x % 128) false N q (fun y hy => hw y (List.mem_cons_of_mem _ hy)) (by omega) (by omega) h
         refine ⟨x :: w, r', by rw [e1]; rfl, by rw [e2]; simp; omega, fun hf hn => ?_, fun hf hn L hL => ?_⟩
         · subst hn
           have hx1 : x ≠ 128 := fun h => c1 ⟨hf, h⟩
           have := e4 rfl (by omega) [] (by rw [arcL_small (by omega)]; simp; omega)
           rw [this]
           have e5 : (128 * 0 + x % 128) % 128 + 128 = x := by omega
           rw [e5]
           rfl
         · have := e4 rfl (by omega) (L ++ [n % 128 + 128]) (by rw [big hf hn L hL]; have : (128 * n + x % 128) % 128 = x % 128 := by omega
                                                                rw [this])
           rw [this]
           have e5 : (128 * n + x % 128) % 128 + 128 = x := by omega
           rw [e5]
           simp
theorem nums_splV {N : Int} (h : 0 ≤ N) : numsL (splA N) = [N] := by
 unfold splA
 by_cases c : N < 80
 · rw [if_pos c]
   show [40 * (N / 40) + N % 40] = [N]
   rw [show 40 * (N / 40) + N % 40 = N by omega]
 · rw [if_neg c]
   show [40 * 2 + (N - 80)] = [N]
   rw [show 40 * 2 + (N - 80) = N by omega]
theorem prA_backV (l : List Int) (hw : WfB l) : ∀ (k p : Nat) (o ro : List Int), l.length - p < k → (o = [] ∨ 2 ≤ o.length) → prA k l p o = (ro, 0) → arcsL (numsL ro) = arcsL (numsL o) ++ l.drop p
 | 0, p, o, ro, h, _, _ => by omega
 | k + 1, p, o, ro, h, ho, he => by
   unfold prA at he
   by_cases hp : p < l.length
   · rw [if_pos hp] at he
     dsimp only at he
     have hn := (nxA_le (l.drop p) p 0 true).2.2 (by rw [drop_at l p hp]; simp)
     have hr := nxA_rng (l.drop p) p 0 true (by omega) (fun x hx => hw x (List.mem_of_mem_drop hx))
     have hb := nx_backV (l.drop p) p 0 true
     generalize nxA (l.drop p) p 0 true = X at *
     obtain ⟨N, e, q⟩ := X
     dsimp only at *
     by_cases h1 : e = 0
     · subst h1
       rw [if_pos rfl] at he
       obtain ⟨w, r', e1, e2, e3, _⟩ := hb N q (fun x hx => hw x (List.mem_of_mem_drop hx)) (by omega) (by omega) rfl
       have e3 := e3 rfl rfl
       have hdq : l.drop q = r' := by rw [e2, ← List.drop_drop, e1, List.drop_left]
       by_cases h2 : o.length = 32
       · rw [if_pos h2] at he; simp at he
       · rw [if_neg h2] at he
         have ih := prA_backV l hw k q _ ro (by omega) (.inr ?_) he
         · rw [ih, e1, hdq, ← List.append_assoc]
           congr 1
           rcases ho with rfl | ho
           · rw [if_pos (by rfl), List.nil_append, nums_splV hr.1]
             show [N].flatMap (fun x => arcL x.toNat) = [] ++ w
             simp [e3]
           · match o, ho with
             | a :: b :: t, _ =>
               rw [if_neg (by simp)]
               show ((40 * a + b) :: (t ++ [N])).flatMap (fun x => arcL x.toNat) = ((40 * a + b) :: t).flatMap (fun x => arcL x.toNat) ++ w
               rw [← List.cons_append, List.flatMap_append]
               simp [e3]
         · rcases ho with rfl | ho
           · rw [if_pos (by rfl)]
             unfold splA
             split <;> simp
           · rw [if_neg (by omega)]
             simp; omega
     · rw [if_neg h1] at he
       simp only [Prod.mk.injEq] at he
       exact absurd he.2 h1
   · rw [if_neg hp] at he
     simp only [Prod.mk.injEq] at he
     obtain ⟨rfl, _⟩ := he
     rw [List.drop_eq_nil_of_le (by omega), List.append_nil]
theorem oidP_backV {l o : List Int} (hw : WfB l) (h : oidP l = (o, 0)) : arcsL (numsL o) = l := by
 unfold oidP at h
 by_cases h0 : l = []
 · rw [if_pos h0] at h; simp at h
 · rw [if_neg h0] at h
   have := prA_backV l hw _ 0 [] o (by omega) (.inl rfl) h
   rw [this]
   rfl

def crX (c : Bool) : List Int := if c = true then [1, 1, 255] else []
def inX (x : ExT) : List Int := wrapL (ofT 6) (arcsL (numsL x.1)) ++ (crX x.2.1 ++ wrapL (ofT 4) x.2.2)
def wrX (x : ExT) : List Int := wrapL (ofT 16) (inX x)
theorem wr1 : wrapL (ofT 1) [255] = [1, 1, 255] := by decide +kernel
theorem wrap_ge (t : TagP) (x : List Int) : 1 ≤ (wrapL t x).length := by
 unfold wrapL lenL
 split <;> simp <;> omega
theorem crit_back {X : List Int} {c : Bool} {p q : Nat} (hw : WfB X) (h : critR X p = (c, q, 0)) : X.drop p = crX c ++ X.drop q := by
 unfold critR at h
 by_cases hi : isH X p (ofT 1) = true
 · rw [if_pos hi] at h
   dsimp only at h
   unfold boolR at h
   generalize hO : openP X p (ofT 1) = O at *
   obtain ⟨y, q1, e⟩ := O
   dsimp only at h
   by_cases he : e = 0
   · subst he
     rw [if_pos rfl] at h
     by_cases hy : y = [0] ∨ y = [255]
     · rw [if_pos hy] at h
       dsimp only at h
       by_cases h2 : y = [255]
       · subst h2
         simp at h
         obtain ⟨rfl, rfl⟩ := h
         rw [(open_back hw hO).2, wr1]
         rfl
       · simp [h2] at h
     · rw [if_neg hy] at h
       simp at h
   · rw [if_neg he] at h
     simp [he] at h
 · rw [if_neg hi] at h
   simp only [Prod.mk.injEq] at h
   obtain ⟨rfl, rfl, _⟩ := h
   rfl
theorem oidR_backX {l o : List Int} {p q : Nat} (hw : WfB l) (h : oidR l p = (o, q, 0)) : rightO o = true ∧ l.drop p = wrapL (ofT 6) (arcsL (numsL o)) ++ l.drop q := by
 unfold oidR at h
 have hm := openP_mem l p (ofT 6)
 generalize hX : openP l p (ofT 6) = X at *
 obtain ⟨x, q1, e⟩ := X
 dsimp only at *
 have hwx : WfB x := fun y hy => hw y (hm.2 y hy)
 by_cases he : e = 0
 · subst he
   rw [if_pos rfl] at h
   have hr := oidP_rightV x hwx
   generalize hY : oidP x = Y at *
   obtain ⟨o1, f⟩ := Y
   dsimp only at *
   by_cases hf : f = 0
   · subst hf
     rw [if_pos rfl] at h
     simp only [Prod.mk.injEq] at h
     obtain ⟨rfl, rfl, _⟩ := h
     refine ⟨hr rfl, ?_⟩
     rw [oidP_backV hwx hY]
     exact (open_back hw hX).2
   · rw [if_neg hf] at h
     simp only [Prod.mk.injEq] at h
     exact absurd h.2.2 hf
 · rw [if_neg he] at h
   simp only [Prod.mk.injEq] at h
   exact absurd h.2.2 he
theorem exR1_back {l : List Int} {x : ExT} {p q : Nat} (hw : WfB l) (hp : p ≤ l.length) (h : exR1 l p = (x, q, 0)) : rightO x.1 = true ∧ l.drop p = wrX x ++ l.drop q ∧ WfB x.2.2 ∧ x.2.2.length ≤ l.length ∧ p < q ∧ q ≤ l.length := by
 unfold exR1 at h
 by_cases h0 : (rawX l p).2.2 = 0
 · rw [keepP_ok _ _ _ h0] at h
   have hle := openP_le l p (ofT 16) hp
   have hm := openP_mem l p (ofT 16)
   unfold rawX at h
   generalize hO : openP l p (ofT 16) = O at *
   obtain ⟨X, q1, e⟩ := O
   dsimp only at *
   have hwX : WfB X := fun y hy => hw y (hm.2 y hy)
   by_cases he : e = 0
   · subst he
     rw [if_pos rfl] at h
     have h1l := oidR_le X 0 (Nat.zero_le _)
     generalize h1 : oidR X 0 = R1 at *
     obtain ⟨o, p1, f1⟩ := R1
     dsimp only at *
     by_cases hf1 : f1 = 0
     · subst hf1
       rw [if_pos rfl] at h
       have h2l := critR_le X p1 h1l.2
       generalize h2 : critR X p1 = R2 at *
       obtain ⟨c, p2, f2⟩ := R2
       dsimp only at *
       by_cases hf2 : f2 = 0
       · subst hf2
         rw [if_pos rfl] at h
         have h3l := openP_le X p2 (ofT 4) h2l.2
         have h3m := openP_mem X p2 (ofT 4)
         generalize h3 : openP X p2 (ofT 4) = R3 at *
         obtain ⟨v, p3, f3⟩ := R3
         dsimp only at *
         by_cases hf3 : f3 = 0
         · subst hf3
           rw [if_pos rfl] at h
           by_cases hlt : p3 < X.length
           · rw [if_pos hlt] at h; simp at h
           · rw [if_neg hlt] at h
             simp only [Prod.mk.injEq] at h
             obtain ⟨rfl, rfl, _⟩ := h
             obtain ⟨a1, a2⟩ := oidR_backX hwX h1
             have a3 := crit_back hwX h2
             have a4 := (open_back hwX h3).2
             have a5 := (open_back hw hO).2
             have e3 : X.drop p3 = [] := List.drop_eq_nil_of_le (by omega)
             rw [e3, List.append_nil] at a4
             rw [List.drop_zero, a3, a4] at a2
             have a6 : l.drop p = wrX (o, c, v) ++ l.drop q1 := by rw [a5, a2]; rfl
             refine ⟨a1, a6, fun y hy => hwX y (h3m.2 y hy), by dsimp only; omega, ?_, hle.2⟩
             have := congrArg List.length a6
             have hg := wrap_ge (ofT 16) (inX (o, c, v))
             simp only [List.length_append, List.length_drop] at this
             change 1 ≤ (wrX (o, c, v)).length at hg
             omega
         · rw [if_neg hf3] at h
           simp only [Prod.mk.injEq] at h
           exact absurd h.2.2 hf3
       · rw [if_neg hf2] at h
         simp only [Prod.mk.injEq] at h
         exact absurd h.2.2 hf2
     · rw [if_neg hf1] at h
       simp only [Prod.mk.injEq] at h
       exact absurd h.2.2 hf1
   · rw [if_neg he] at h
     simp only [Prod.mk.injEq] at h
     exact absurd h.2.2 he
 · rw [keepP_err _ _ _ h0] at h
   simp only [Prod.mk.injEq] at h
   exact absurd h.2.2 h0
def hasO (acc : List ExT) (o : List Int) : Bool := acc.any fun e => decide (e.1 = o)
def allX (l : List Int) : Nat → Nat → List ExT → List ExT × Nat × Int
 | 0, p, acc => (acc, p, 0)
 | k + 1, p, acc =>
   if p < l.length then (if acc.length = 64 then ([], p, 2) else
     let r := exR1 l p
     if r.2.2 = 0 then (if hasO acc r.1.1 = true then ([], r.2.1, 10) else allX l k r.2.1 (acc ++ [r.1])) else ([], r.2.1, r.2.2))
   else (acc, p, 0)
def allP (l : List Int) : List ExT × Nat × Int := if l = [] then ([], 0, 6) else allX l (l.length + 1) 0 []
def exsR (l : List Int) (p : Nat) : List ExT × Nat × Int :=
 let r := openP l p (ofT 16)
 if r.2.2 = 0 then (let a := allP r.1; if a.2.2 = 0 then (a.1, r.2.1, 0) else ([], p, a.2.2)) else ([], p, r.2.2)
theorem exR1_le (l : List Int) (p : Nat) (hp : p ≤ l.length) : p ≤ (exR1 l p).2.1 ∧ (exR1 l p).2.1 ≤ l.length := keepP_le _ _ _ _ (rawX_le l p hp)
theorem exR1_err {l : List Int} {p : Nat} (h : ¬ (exR1 l p).2.2 = 0) : (exR1 l p).1 = e0 ∧ (exR1 l p).2.1 = p := by
 unfold exR1 at h ⊢
 by_cases h0 : (rawX l p).2.2 = 0
 · rw [keepP_ok _ _ _ h0] at h; exact absurd h0 h
 · rw [keepP_err _ _ _ h0]; exact ⟨rfl, rfl⟩
theorem allX_fuel (l : List Int) (hw : WfB l) : ∀ (k k' p : Nat) (acc : List ExT), p ≤ l.length → l.length - p < k → l.length - p < k' → allX l k p acc = allX l k' p acc
 | 0, k', p, o, _, h, _ => by omega
 | k + 1, 0, p, o, _, _, h => by omega
 | k + 1, k' + 1, p, o, hp, h, h' => by
   unfold allX
   by_cases hp2 : p < l.length
   · rw [if_pos hp2, if_pos hp2]
     split
     · rfl
     · dsimp only
       split
       · rename_i he
         have hb := exR1_back (x := (exR1 l p).1) (q := (exR1 l p).2.1) hw hp (by rw [← he])
         split
         · rfl
         · exact allX_fuel l hw k k' _ _ hb.2.2.2.2.2 (by omega) (by omega)
       · rfl
   · rw [if_neg hp2, if_neg hp2]
def goodX (l : List ExT) : Prop := (∀ e ∈ l, rightO e.1 = true) ∧ (l.map (·.1)).Nodup
theorem hasO_iff {acc : List ExT} {o : List Int} : hasO acc o = true ↔ o ∈ acc.map (·.1) := by
 unfold hasO
 rw [List.any_eq_true, List.mem_map]
 constructor
 · rintro ⟨e, h1, h2⟩; exact ⟨e, h1, by simpa using h2⟩
 · rintro ⟨e, h1, h2⟩; exact ⟨e, h1, by simpa using h2⟩
theorem goodX_snoc {acc : List ExT} {x : ExT} (h : goodX acc) (hr : rightO x.1 = true) (hn : ¬ hasO acc x.1 = true) : goodX (acc ++ [x]) := by
 rw [hasO_iff] at hn
 refine ⟨fun e he => ?_, ?_⟩
 · rcases List.mem_append.1 he with h1 | h1
   · exact h.1 e h1
   · rw [List.mem_singleton.1 h1]; exact hr
 · rw [List.map_append, List.nodup_append]
   refine ⟨h.2, by simp, fun a ha b hb => ?_⟩
   simp at hb
   rintro rfl
   rw [hb] at ha
   exact hn ha
theorem allX_back {l : List Int} (hw : WfB l) : ∀ (k p : Nat) (acc r : List ExT) (q : Nat), p ≤ l.length → l.length - p < k → goodX acc → acc.length ≤ 64 → (∀ e ∈ acc, WfB e.2.2 ∧ e.2.2.length ≤ l.length) → allX l k p acc = (r, q, 0) →
   goodX r ∧ r.length ≤ 64 ∧ q = l.length ∧ (∀ e ∈ r, WfB e.2.2 ∧ e.2.2.length ≤ l.length) ∧ acc.length ≤ r.length ∧ (p < l.length → acc.length < r.length) ∧ acc.flatMap wrX ++ l.drop p = r.flatMap wrX
 | 0, p, acc, r, q, _, h, _, _, _, _ => by omega
 | k + 1, p, acc, r, q, hp, hk, hg, hl, hv, h => by
   unfold allX at h
   by_cases hp2 : p < l.length
   · rw [if_pos hp2] at h
     by_cases h64 : acc.length = 64
     · rw [if_pos h64] at h; simp at h
     · rw [if_neg h64] at h
       generalize hx : exR1 l p = X at *
       obtain ⟨x, q1, e⟩ := X
       dsimp only at h
       by_cases he : e = 0
       · subst he
         rw [if_pos rfl] at h
         obtain ⟨b1, b2, b3, b4, b5, b6⟩ := exR1_back hw hp hx
         by_cases hh : hasO acc x.1 = true
         · rw [if_pos hh] at h; simp at h
         · rw [if_neg hh] at h
           obtain ⟨c1, c2, c3, c4, c5, c6, c7⟩ := allX_back hw k q1 (acc ++ [x]) r q b6 (by omega) (goodX_snoc hg b1 hh) (by simp; omega) (fun e he => by
             rcases List.mem_append.1 he with h1 | h1
             · exact hv e h1
             · rw [List.mem_singleton.1 h1]; exact ⟨b3, b4⟩) h
           simp only [List.length_append, List.length_singleton] at c5
           refine ⟨c1, c2, c3, c4, by omega, fun _ => by omega, ?_⟩
           rw [← c7, b2, List.flatMap_append]
           simp
       · rw [if_neg he] at h
         simp only [Prod.mk.injEq] at h
         exact absurd h.2.2 he
   · rw [if_neg hp2] at h
     simp only [Prod.mk.injEq] at h
     obtain ⟨rfl, rfl, _⟩ := h
     exact ⟨hg, hl, by omega, hv, Nat.le_refl _, fun h => absurd h hp2, by rw [List.drop_eq_nil_of_le (by omega), List.append_nil]⟩
end Go.Proofs.YtaagjnlkinojcaaGreatDoor

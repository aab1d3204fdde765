/-
  Chapter 02: digits to a base that is a power of two. The conditions: numbers that a machine can hold.
-/
import Derived.Test.YtohfhephkjihfaaGreatC6
import Derived.Test.YtohfhephkjihfaaGreatO3
import Derived.Test.YtohfhephkjihfaaGreatSxQ
import Derived.Test.YtohfhephkjihfaaGreatW16
import Derived.Test.YtohfhephkjihfaaGreatSxN
namespace Go.Proofs.YtohfhephkjihfaaGreat
set_option linter.unusedSimpArgs false
set_option linter.unusedVariables false
open Go.Sx
set_option maxRecDepth 10000
def nxA : List Int → Nat → Int → Bool → Int × Int × Nat
 | [], p, n, f => (0, 6, p)
 | x :: r, p, n, f => if f = true ∧ x = 128 then (0, 6, p + 1) else if 2147483647 < 128 * n + x % 128 then (0, 2, p + 1) else if x < 128 then (128 * n + x % 128, 0, p + 1) else nxA r (p + 1) (128 * n + x % 128) false
theorem drop_at (l : List Int) (p : Nat) (h : p < l.length) : l.drop p = l.getD p 0 :: l.drop (p + 1) := by
 rw [List.drop_eq_getElem_cons h, List.getD_eq_getElem?_getD, List.getElem?_eq_getElem h]
 rfl
theorem wf_at {l : List Int} (h : WfB l) (p : Nat) : 0 ≤ l.getD p 0 ∧ l.getD p 0 < 256 := by
 rw [List.getD_eq_getElem?_getD]
 cases hx : l[p]? with
 | none => exact ⟨by simp, by simp⟩
 | some x => exact h x (List.mem_of_getElem? hx)
theorem nxA_le : ∀ (r : List Int) (p : Nat) (n : Int) (f : Bool), p ≤ (nxA r p n f).2.2 ∧ (nxA r p n f).2.2 ≤ p + r.length ∧ (r ≠ [] → p < (nxA r p n f).2.2)
 | [], p, n, f => by simp [nxA]
 | x :: r, p, n, f => by
   have ih := nxA_le r (p + 1) (128 * n + x % 128) false
   unfold nxA
   simp only [List.length_cons]
   split
   · dsimp only; exact ⟨by omega, by omega, fun _ => by omega⟩
   · split
     · dsimp only; exact ⟨by omega, by omega, fun _ => by omega⟩
     · split
       · dsimp only; exact ⟨by omega, by omega, fun _ => by omega⟩
       · exact ⟨by omega, by omega, fun _ => by omega⟩
theorem nxA_rng : ∀ (r : List Int) (p : Nat) (n : Int) (f : Bool), 0 ≤ n → (∀ x ∈ r, 0 ≤ x ∧ x < 256) → 0 ≤ (nxA r p n f).1 ∧ (nxA r p n f).1 ≤ 2147483647
 | [], p, n, f, _, _ => by simp [nxA]
 | x :: r, p, n, f, h, hw => by
   have hx := hw x (List.mem_cons_self ..)
   have ih := nxA_rng r (p + 1) (128 * n + x % 128) false (by omega) fun y hy => hw y (List.mem_cons_of_mem _ hy)
   unfold nxA
   split
   · simp
   · split
     · simp
     · split
       · dsimp only; omega
       · exact ih
theorem next_ok (l : List Int) (p0 : Nat) (hp : p0 ≤ l.length) (hl : l.length ≤ 1000000) (hw : WfB l) :
   Ct Tryz.prog 111 [.c (.ptr 0 0)] [curB l p0] (.tup [lv (.int .i64 (nxA (l.drop p0) p0 0 true).1), lv (.int .i64 (nxA (l.drop p0) p0 0 true).2.1)]) [curB l (nxA (l.drop p0) p0 0 true).2.2] [] := by
 obtain ⟨R, hR⟩ : ∃ R, nxA (l.drop p0) p0 0 true = R := ⟨_, rfl⟩
 rw [hR]
 obtain ⟨v, e, q⟩ := R
 refine Ct_intro Tryz.func111 rfl rfl rfl rfl rfl (fun E hn hb => ?_)
 repeat refine nx ?_
 refine W_weaken (St.le_of (l := [(0, .c (.ptr 0 0)), (4, lv (.int .i64 0)), (5, lv (.int .i64 ((0 : Nat) : Int)))]) (h := [(0, curB l p0)]) (by refine ⟨?_, ?_⟩ <;> (repeat' (first | exact trivial | exact rfl | refine ⟨?_, ?_⟩)) <;> first | exact rfl | (simp; done) | skip)) ?_
 refine W_loop (ι := {q' : Nat × Int × Nat // q'.1 ≤ l.length ∧ 0 ≤ q'.2.1 ∧ q'.2.1 ≤ 2147483647 ∧ q'.2.2 ≤ q'.1 ∧ nxA (l.drop q'.1) q'.1 q'.2.1 (decide (q'.2.2 = 0)) = (v, e, q)}) (fun s => St.of [(0, .c (.ptr 0 0)), (4, lv (.int .i64 s.1.2.1)), (5, lv (.int .i64 (s.1.2.2 : Int)))] [(0, curB l s.1.1)]) (fun s => l.length - s.1.1) (fun s => ?_) ⟨(p0, 0, 0), hp, by simp, by simp, Nat.zero_le _, hR⟩
 obtain ⟨⟨p, n, i⟩, h1, h2, h3, h4, h5⟩ := s
 dsimp only
 simp only at h1 h2 h3 h4 h5
 by_cases hlt : p < l.length
 · have hb1 := byte_ok l p hlt hl
   have hx := wf_at hw p
   rw [drop_at l p hlt] at h5
   unfold nxA at h5
   generalize l.getD p 0 = x at *
   by_cases c1 : i = 0 ∧ x = 128
   · obtain ⟨rfl, rfl⟩ := c1
     rw [if_pos (by simp)] at h5
     simp only [Prod.mk.injEq] at h5
     obtain ⟨rfl, rfl, rfl⟩ := h5
     repeat refine nx ?_
     exact rt1 []
   · rw [if_neg (by simpa using c1)] at h5
     have hm : 0 ≤ x % 128 ∧ x % 128 < 128 := by omega
     repeat refine nx ?_
     rw [and127 hx, or7 n (x % 128) (by omega) hm]
     by_cases c2 : 2147483647 < 128 * n + x % 128
     · rw [if_pos c2] at h5
       simp only [Prod.mk.injEq] at h5
       obtain ⟨rfl, rfl, rfl⟩ := h5
       repeat refine nx ?_
       exact rt1 []
     · rw [if_neg c2] at h5
       by_cases c3 : x < 128
       · rw [if_pos c3] at h5
         simp only [Prod.mk.injEq] at h5
         obtain ⟨rfl, rfl, rfl⟩ := h5
         repeat refine nx ?_
         exact rt1 []
       · rw [if_neg c3] at h5
         repeat refine nx ?_
         refine N_round ⟨(p + 1, 128 * n + x % 128, i + 1), by dsimp only; omega, by dsimp only; omega, by dsimp only; omega, by dsimp only; omega, by simpa using h5⟩ (by dsimp only; omega) (St.le_of ⟨⟨rfl, rfl, rfl⟩, rfl⟩)
 · obtain rfl : p = l.length := by omega
   have hb2 := byte_end l hl
   rw [List.drop_length] at h5
   simp only [nxA, Prod.mk.injEq] at h5
   obtain ⟨rfl, rfl, rfl⟩ := h5
   repeat refine nx ?_
   exact rt1 []
def splA (n : Int) : List Int := if n < 80 then [n / 40, n % 40] else [2, n - 80]
theorem split_ok (n : Int) (h : 0 ≤ n ∧ n ≤ 2147483647) : Ct Tryz.prog 112 [lv (.int .i64 n)] [] (.c (.own 0 1 0 (splA n).length)) [] [.row (.ints .i64 (splA n))] := by
 refine Ct_intro Tryz.func112 rfl rfl rfl rfl rfl (fun E hn hb => ?_)
 unfold splA
 by_cases c : n < 80
 · rw [if_pos c]
   repeat (first | refine lo1 ?_ | refine nx ?_)
   exact rt1 [73]
 · rw [if_neg c]
   repeat (first | refine lo1 ?_ | refine nx ?_)
   exact rt1 [76]
def prA : Nat → List Int → Nat → List Int → List Int × Int
 | 0, l, p, o => (o, 0)
 | k + 1, l, p, o =>
   if p < l.length then
     let q := nxA (l.drop p) p 0 true
     if q.2.1 = 0 then (if o.length = 32 then ([], 2) else prA k l q.2.2 (o ++ (if o.length = 0 then splA q.1 else [q.1]))) else ([], q.2.1)
   else (o, 0)
theorem prA_fuel (l : List Int) : ∀ (k k' p : Nat) (o : List Int), l.length - p < k → l.length - p < k' → prA k l p o = prA k' l p o
 | 0, k', p, o, h, _ => by omega
 | k + 1, 0, p, o, _, h => by omega
 | k + 1, k' + 1, p, o, h, h' => by
   unfold prA
   by_cases hp : p < l.length
   · rw [if_pos hp, if_pos hp]
     dsimp only
     have hn : l.drop p ≠ [] := by rw [drop_at l p hp]; simp
     have := (nxA_le (l.drop p) p 0 true).2.2 hn
     split
     · split
       · rfl
       · exact prA_fuel l k k' _ _ (by omega) (by omega)
     · rfl
   · rw [if_neg hp, if_neg hp]
def oidP (l : List Int) : List Int × Int := if l = [] then ([], 6) else prA (l.length + 1) l 0 []
theorem oparse_ok (l : List Int) (hl : l.length ≤ 1000000) (hw : WfB l) : Ct Tryz.prog 90 [B8 l] [] (.tup [I64 (oidP l).1, lv (.int .i64 (oidP l).2)]) [] [] := by
 have hcn := curnew_ok l hl
 have hnx := next_ok l 0 (Nat.zero_le _) hl hw
 have hle := nxA_le (l.drop 0) 0 0 true
 have hrg := nxA_rng (l.drop 0) 0 0 true (by omega) (fun x hx => hw x (by simpa using hx))
 by_cases h0 : l = []
 · subst h0
   have e : nxA (([] : List Int).drop 0) 0 0 true = (0, 6, 0) := rfl
   rw [e] at hnx
   dsimp only at hnx
   have e2 : oidP [] = ([], 6) := rfl
   rw [e2]
   refine Ct_intro Tryz.func90 rfl rfl rfl rfl rfl (fun E hn hb => ?_)
   repeat refine nx ?_
   exact rtU []
 obtain ⟨R, hR⟩ : ∃ R, oidP l = R := ⟨_, rfl⟩
 rw [hR]
 have hlen : 0 < l.length := by
   cases l with
   | nil => exact absurd rfl h0
   | cons => simp
 unfold oidP at hR
 rw [if_neg h0] at hR
 unfold prA at hR
 rw [if_pos hlen] at hR
 generalize nxA (l.drop 0) 0 0 true = X at *
 obtain ⟨n, e, q⟩ := X
 obtain ⟨ro, re⟩ := R
 dsimp only at *
 have hsp := split_ok n hrg
 by_cases he : e = 0
 · subst he
   rw [if_pos rfl, if_neg (by simp), if_pos (by rfl), List.nil_append] at hR
   have hs2 : (splA n).length = 2 := by unfold splA; split <;> rfl
   have hq : 0 < q := hle.2.2 (by simpa using h0)
   have hql : q ≤ l.length := by have := hle.2.1; simp at this; omega
   rw [prA_fuel l l.length (l.length + 1) q _ (by omega) (by omega)] at hR
   refine Ct_intro Tryz.func90 rfl rfl rfl rfl rfl (fun E hn hb => ?_)
   repeat refine nx ?_
   refine W_weaken (St.le_of (l := [(4, .c (.ptr 75 0)), (7, .c (.own 85 1 0 (splA n).length))]) (h := [(75, curB l q), (85, .row (.ints .i64 (splA n)))]) (by refine ⟨?_, ?_⟩ <;> (repeat' (first | exact trivial | exact rfl | refine ⟨?_, ?_⟩)) <;> first | exact rfl | (simp; done) | skip)) ?_
   refine W_loop (ι := {s : Nat × List Int // s.1 ≤ l.length ∧ s.2 ≠ [] ∧ s.2.length ≤ 32 ∧ prA (l.length + 1) l s.1 s.2 = (ro, re)}) (fun s => St.of [(4, .c (.ptr 75 0)), (7, .c (.own 85 1 0 s.1.2.length))] [(75, curB l s.1.1), (85, .row (.ints .i64 s.1.2))]) (fun s => l.length - s.1.1) (fun s => ?_) ⟨(q, splA n), hql, by intro h; dsimp only at h; rw [h] at hs2; simp at hs2, by dsimp only; omega, hR⟩
   obtain ⟨⟨p, o⟩, k1, k2, k3, k4⟩ := s
   dsimp only
   simp only at k1 k2 k3 k4
   have hlf := left_ok l p k1 (by omega)
   unfold prA at k4
   by_cases hp : p < l.length
   · rw [if_pos hp] at k4
     have hnx2 := next_ok l p k1 hl hw
     have hle2 := nxA_le (l.drop p) p 0 true
     have hrg2 := nxA_rng (l.drop p) p 0 true (by omega) (fun x hx => hw x (List.mem_of_mem_drop hx))
     have hp2 : p < (nxA (l.drop p) p 0 true).2.2 := hle2.2.2 (by rw [drop_at l p hp]; simp)
     have hp3 : (nxA (l.drop p) p 0 true).2.2 ≤ l.length := by have := hle2.2.1; simp at this; omega
     generalize nxA (l.drop p) p 0 true = X at *
     obtain ⟨n', e', q'⟩ := X
     dsimp only at *
     by_cases he2 : e' = 0
     · subst he2
       rw [if_pos rfl] at k4
       by_cases h32 : o.length = 32
       · rw [if_pos h32] at k4
         simp only [Prod.mk.injEq] at k4
         obtain ⟨rfl, rfl⟩ := k4
         repeat refine nx ?_
         exact rtU []
       · rw [if_neg h32] at k4
         have em : ¬ o.length = 0 := fun h => k2 (List.eq_nil_of_length_eq_zero h)
         rw [if_neg em] at k4
         rw [prA_fuel l l.length (l.length + 1) q' _ (by omega) (by omega)] at k4
         repeat refine nx ?_
         refine N_round ⟨(q', o ++ [n']), hp3, by simp, by simp; omega, k4⟩ (by dsimp only; omega) (St.le_of ⟨⟨rfl, rfl⟩, ⟨rfl, rfl⟩⟩)
     · rw [if_neg he2] at k4
       simp only [Prod.mk.injEq] at k4
       obtain ⟨rfl, rfl⟩ := k4
       repeat refine nx ?_
       exact rtU []
   · rw [if_neg hp] at k4
     obtain rfl : p = l.length := by omega
     simp only [Prod.mk.injEq] at k4
     obtain ⟨rfl, rfl⟩ := k4
     repeat refine nx ?_
     refine frzN 2 ?_
     exact rtU []
 · rw [if_neg he] at hR
   simp only [Prod.mk.injEq] at hR
   obtain ⟨rfl, rfl⟩ := hR
   refine Ct_intro Tryz.func90 rfl rfl rfl rfl rfl (fun E hn hb => ?_)
   repeat refine nx ?_
   exact rtU []

theorem openP_mem (l : List Int) (p : Nat) (t : TagP) : (openP l p t).1.length ≤ l.length ∧ ∀ x ∈ (openP l p t).1, x ∈ l := by
 unfold openP keepP
 split
 · unfold rawO
   split
   · split
     · split
       · simp
       · constructor
         · simp; omega
         · intro x hx
           exact List.mem_of_mem_drop (List.mem_of_mem_take hx)
     · simp
   · simp
 · simp
def ofT (n : Int) : TagP := (0, n, decide (n = 16 ∨ n = 17))
theorem headof_ok (n : Int) : Ct Tryz.prog 65 [lv (.int .i64 n)] [] (tagA (ofT n)) [] [] := by
 refine Ct_intro Tryz.func65 rfl rfl rfl rfl rfl (fun E hn hb => ?_)
 repeat (refine nst ?_)
 refine s_allocN rfl rfl rfl (by rw [hn]; rfl) rfl zok119 ?_
 repeat (refine nst ?_)
 refine s_storeN rfl rfl rfl rfl rfl (by exact vcs) rfl rfl rfl (by rw [cellsOf119]; rfl) (by rw [info119]; rfl) rfl rfl ?_
 repeat (refine nst ?_)
 refine rt2 [] ?_ ?_
 · show Av.agg [.lf (.v (.int .i64 0)), .lf (.v (.int .i64 n)), .lf (.v (.bool (cond (n == 16) true (n == 17))))] = _
   have e : (cond (n == 16) true (n == 17)) = decide (n = 16 ∨ n = 17) := by
     by_cases h1 : n = 16 <;> by_cases h2 : n = 17 <;> simp [h1, h2]
   rw [e]
   rfl
 · trivial
def rightT (t : TagP) : Bool := decide (0 ≤ t.1 ∧ t.1 ≤ 3 ∧ 0 ≤ t.2.1 ∧ t.2.1 < 2097152)
theorem headright_ok (t : TagP) : Ct Tryz.prog 130 [tagA t] [] (lv (.bool (rightT t))) [] [] := by
 refine Ct_intro Tryz.func130 rfl rfl rfl rfl rfl (fun E hn hb => ?_)
 repeat (refine nst ?_)
 refine s_boxN rfl rfl rfl (by rw [hn]; rfl) rfl (by exact vcs) rfl rfl ?_
 repeat (refine nst ?_)
 refine rt2 [] ?_ ?_
 · show lv (.bool (cond (cond (cond (decide (0 ≤ t.1)) (decide (t.1 ≤ 3)) false) (decide (0 ≤ t.2.1)) false) (decide (t.2.1 < 2097152)) false)) = _
   have e : (cond (cond (cond (decide (0 ≤ t.1)) (decide (t.1 ≤ 3)) false) (decide (0 ≤ t.2.1)) false) (decide (t.2.1 < 2097152)) false) = rightT t := by
     unfold rightT
     by_cases h1 : 0 ≤ t.1 <;> by_cases h2 : t.1 ≤ 3 <;> by_cases h3 : 0 ≤ t.2.1 <;> by_cases h4 : t.2.1 < 2097152 <;> simp [h1, h2, h3, h4]
   rw [e]
   rfl
 · trivial

structure RS where
 i : Nat
 n : Int
def RS.ok (l : List Int) (p : Nat) (s : RS) : Prop := s.i ≤ 3 ∧ p + 1 + s.i ≤ l.length ∧ numP l (3 - s.i) (p + 1 + s.i) s.n = numP l 3 (p + 1) 0 ∧ 0 ≤ s.n ∧ (s.i = 0 ∧ s.n < 1 ∨ s.i = 1 ∧ s.n < 128 ∨ s.i = 2 ∧ s.n < 16384 ∨ s.i = 3 ∧ s.n < 2097152)

def oidR (l : List Int) (p : Nat) : List Int × Nat × Int :=
 let r := openP l p (ofT 6)
 if r.2.2 = 0 then (let x := oidP r.1; if x.2 = 0 then (x.1, r.2.1, 0) else ([], p, x.2)) else ([], p, r.2.2)
theorem oread_ok (l : List Int) (p : Nat) (hp : p ≤ l.length) (hl : l.length ≤ 1000000) (hw : WfB l) : Ct Tryz.prog 66 [.c (.ptr 0 0)] [curB l p] (.tup [I64 (oidR l p).1, lv (.int .i64 (oidR l p).2.2)]) [curB l (oidR l p).2.1] [] := by
 have hat := at_ok l p
 have hho := headof_ok 6
 have hop := open_ok l p (ofT 6) hp hl hw
 have hoe := open_err l p (ofT 6) hp hl hw
 have hle := openP_le l p (ofT 6) hp
 have hmem := openP_mem l p (ofT 6)
 unfold oidR
 generalize openP l p (ofT 6) = X at *
 obtain ⟨x, q, e⟩ := X
 dsimp only at *
 by_cases he : e = 0
 · subst he
   have hop := hop rfl
   rw [if_pos rfl]
   have hre := rest_ok x 0 (Nat.zero_le _) (by omega)
   rw [List.drop_zero] at hre
   have hpa := oparse_ok x (by omega) (fun y hy => hw y (hmem.2 y hy))
   have hbk := back_ok l q p hle.1 (by omega)
   generalize oidP x = Y at *
   obtain ⟨o, f⟩ := Y
   dsimp only at *
   by_cases hf : f = 0
   · subst hf
     rw [if_pos rfl]
     refine Ct_intro Tryz.func66 rfl rfl rfl rfl rfl (fun E hn hb => ?_)
     repeat refine nx ?_
     exact rtU []
   · rw [if_neg hf]
     refine Ct_intro Tryz.func66 rfl rfl rfl rfl rfl (fun E hn hb => ?_)
     repeat refine nx ?_
     exact rtU []
 · have hoe := hoe he
   rw [if_neg he]
   refine Ct_intro Tryz.func66 rfl rfl rfl rfl rfl (fun E hn hb => ?_)
   repeat refine nx ?_
   exact rtU []
theorem oidR_le (l : List Int) (p : Nat) (hp : p ≤ l.length) : p ≤ (oidR l p).2.1 ∧ (oidR l p).2.1 ≤ l.length := by
 have h := openP_le l p (ofT 6) hp
 unfold oidR
 dsimp only
 split
 · split
   · exact h
   · exact ⟨Nat.le_refl _, hp⟩
 · exact ⟨Nat.le_refl _, hp⟩

theorem and_mod (s : Nat) (hs : s ≤ 8) (n : Int) (h : 0 ≤ n ∧ n < 4611686018427387904) : IntKind.i64.wrap (BitVec.ofInt IntKind.i64.bits n &&& BitVec.ofInt IntKind.i64.bits (2 ^ s - 1)).toNat = n % 2 ^ s := by
 obtain ⟨n, rfl⟩ : ∃ m : Nat, n = m := ⟨n.toNat, by omega⟩
 have hp : (2 : Nat) ^ s ≤ 256 := Nat.pow_le_pow_right (by decide) hs
 have hp1 : 0 < (2 : Nat) ^ s := Nat.pow_pos (by decide)
 have e0 : (2 : Int) ^ s - 1 = ((2 ^ s - 1 : Nat) : Int) := by
   have : ((2 ^ s : Nat) : Int) = (2 : Int) ^ s := by simp
   omega
 have e3 : ((n : Int) % 2 ^ s) = ((n % 2 ^ s : Nat) : Int) := by simp
 rw [e0, e3]
 have hm := Nat.and_two_pow_sub_one_eq_mod n s
 have hlt : n % 2 ^ s < 256 := Nat.lt_of_lt_of_le (Nat.mod_lt _ hp1) hp
 rw [← hm] at hlt ⊢
 have e1 : (BitVec.ofInt IntKind.i64.bits (n : Int)).toNat = n := by
   rw [BitVec.toNat_ofInt]; simp only [IntKind.bits]; omega
 have e2 : (BitVec.ofInt IntKind.i64.bits ((2 ^ s - 1 : Nat) : Int)).toNat = 2 ^ s - 1 := by
   rw [BitVec.toNat_ofInt]; simp only [IntKind.bits]; omega
 rw [BitVec.toNat_and, e1, e2]
 generalize n &&& (2 ^ s - 1) = z at *
 simp only [IntKind.wrap, IntKind.signed, IntKind.bits]
 simp
 omega
abbrev iB (n : Int) : Blk := .cells [.lf (.v (.int .i64 n))]
theorem digit7_ok (acc : List Int) (n : Int) (hn0 : 0 ≤ n ∧ n < 4611686018427387904) (hl : acc.length ≤ 1000) :
   CtM Tryz.prog 134 [.c (.ptr 0 0), .c (.ptr 1 0), .c (.ptr 2 0)] [.cells [.own 3 1 0 acc.length], iB n, iB 7, .row (.ints .u8 acc)] (.tup [])
     [.cells [.own 4 1 0 (acc.length + 1)], iB n, iB 7, .gone] [.row (.ints .u8 (acc ++ [n % 128]))] := by
 have ha : IntKind.i64.wrap (BitVec.ofInt IntKind.i64.bits n &&& BitVec.ofInt IntKind.i64.bits (1 * 2 ^ min (Int.toNat 7) IntKind.i64.bits - 1)).toNat = n % 128 := and_mod 7 (by decide) n hn0
 refine CtM_intro Tryz.func134 rfl rfl rfl rfl rfl (fun E hn hb => ?_)
 repeat (refine nst ?_)
 refine W_drawW 8 (by kernel_rfl) (by kernel_rfl) (by kernel_rfl) (by rw [hn]; rfl) rfl rfl ?_
 repeat (first | refine dp1 ?_ | refine dg1 ?_ | refine DrawW_nil ?_)
 rw [ha]
 refine DrawW_cons rfl (ops_of (opys_lit (d := (.ints .u8 [n % 128])) rfl (elt_mk Tryz.underlying29 rfl rfl) zok5 rfl (by exact vcs) rfl ⟨by decide, by decide, rfl, rfl⟩) rfl) ?_
 repeat (first | refine dp1 ?_ | refine dg1 ?_ | refine DrawW_nil ?_)
 repeat (refine nst ?_)
 refine s_appendK 95 rfl rfl rfl rfl rfl (by rw [hn]; rfl) (elt_mk Tryz.underlying29 rfl rfl) rfl rfl rfl rfl ?_ (by simp) ⟨by simp; omega, by decide⟩ ?_ ?_
 · trivial
 · repeat (refine nst ?_)
   refine s_storeN rfl rfl rfl rfl rfl (by exact vcs) rfl rfl rfl (by rw [cellsOf29]; rfl) (by rw [info29]; rfl) rfl rfl ?_
   rw [Nat.zero_add, List.take_length]
   repeat (refine nst ?_)
   exact N_endM [3] rfl (by trivial) ⟨rfl, ⟨.inr rfl, .inr rfl, .inr rfl, .inl rfl⟩, rfl, rfl⟩ hb rfl
 · repeat (refine nst ?_)
   refine s_storeN rfl rfl rfl rfl rfl (by exact vcs) rfl rfl rfl (by rw [cellsOf29]; rfl) (by rw [info29]; rfl) rfl rfl ?_
   rw [Nat.zero_add, List.take_length, List.drop_zero]
   repeat (refine nst ?_)
   exact N_endM [95] rfl (by trivial) ⟨rfl, ⟨.inr rfl, .inr rfl, .inr rfl, .inl rfl⟩, rfl, rfl⟩ hb rfl
theorem digit8_ok (acc : List Int) (n : Int) (hn0 : 0 ≤ n ∧ n < 4611686018427387904) (hl : acc.length ≤ 1000) :
   CtM Tryz.prog 134 [.c (.ptr 0 0), .c (.ptr 1 0), .c (.ptr 2 0)] [.cells [.own 3 1 0 acc.length], iB n, iB 8, .row (.ints .u8 acc)] (.tup [])
     [.cells [.own 4 1 0 (acc.length + 1)], iB n, iB 8, .gone] [.row (.ints .u8 (acc ++ [n % 256]))] := by
 have ha : IntKind.i64.wrap (BitVec.ofInt IntKind.i64.bits n &&& BitVec.ofInt IntKind.i64.bits (1 * 2 ^ min (Int.toNat 8) IntKind.i64.bits - 1)).toNat = n % 256 := and_mod 8 (by decide) n hn0
 refine CtM_intro Tryz.func134 rfl rfl rfl rfl rfl (fun E hn hb => ?_)
 repeat (refine nst ?_)
 refine W_drawW 8 (by kernel_rfl) (by kernel_rfl) (by kernel_rfl) (by rw [hn]; rfl) rfl rfl ?_
 repeat (first | refine dp1 ?_ | refine dg1 ?_ | refine DrawW_nil ?_)
 rw [ha]
 refine DrawW_cons rfl (ops_of (opys_lit (d := (.ints .u8 [n % 256])) rfl (elt_mk Tryz.underlying29 rfl rfl) zok5 rfl (by exact vcs) rfl ⟨by decide, by decide, rfl, rfl⟩) rfl) ?_
 repeat (first | refine dp1 ?_ | refine dg1 ?_ | refine DrawW_nil ?_)
 repeat (refine nst ?_)
 refine s_appendK 95 rfl rfl rfl rfl rfl (by rw [hn]; rfl) (elt_mk Tryz.underlying29 rfl rfl) rfl rfl rfl rfl ?_ (by simp) ⟨by simp; omega, by decide⟩ ?_ ?_
 · trivial
 · repeat (refine nst ?_)
   refine s_storeN rfl rfl rfl rfl rfl (by exact vcs) rfl rfl rfl (by rw [cellsOf29]; rfl) (by rw [info29]; rfl) rfl rfl ?_
   rw [Nat.zero_add, List.take_length]
   repeat (refine nst ?_)
   exact N_endM [3] rfl (by trivial) ⟨rfl, ⟨.inr rfl, .inr rfl, .inr rfl, .inl rfl⟩, rfl, rfl⟩ hb rfl
 · repeat (refine nst ?_)
   refine s_storeN rfl rfl rfl rfl rfl (by exact vcs) rfl rfl rfl (by rw [cellsOf29]; rfl) (by rw [info29]; rfl) rfl rfl ?_
   rw [Nat.zero_add, List.take_length, List.drop_zero]
   repeat (refine nst ?_)
   exact N_endM [95] rfl (by trivial) ⟨rfl, ⟨.inr rfl, .inr rfl, .inr rfl, .inl rfl⟩, rfl, rfl⟩ hb rfl
end Go.Proofs.YtohfhephkjihfaaGreat

/-
  Chapter 04, its smaller functions. The conditions: rows of at most a million numbers.
-/
import Derived.Test.YtaagjnlkinojcaaGreatSxN
import Derived.Lib.Builder
import Derived.Lib.AppendStr
import Derived.Lib.UnsafeStr
import Derived.Laws.Externs
import Derived.Test.YtaagjnlkinojcaaGreatTy
namespace Go.Sx
open Go
set_option linter.unusedVariables false
set_option linter.unusedSimpArgs false
section
variable {P : Program} {E : Env} {ops : Array Oper} {Q : Exit → Act → World → Prop} {rest : List Oper} {o : Oper} {σ : St}
theorem SRb.one {β : Nat → Option Nat} {F : Nat → Prop} {a : Act} {w w' : World} {d : Nat} {x : Av} {v : Value} (h : SRb E β F σ a w) (hd : d < E.n) (hx : AvR (fun _ => none) (fun _ => False) w' x v) (hpl : z3k x = true) (hk : Keep E.w0 E.M w')
   (hsz : w.heap.size ≤ w'.heap.size) : SR E (St.of [(d, x)] []) (a.put (some d) v) w' := by
 refine ⟨fun i => if i < E.nb then E.β0 i else none, fun _ => False, fun i => ?_, by simpa [Act.put] using h.sz, h.df, fun j => ?_, fun i j g hi => ?_, fun i g hi => ?_, fun i g e => ?_, fun b hb => hb.elim, hk, fun i hi => if_pos hi, h.nbl⟩
 · have hlt : d < a.tmps.size := by rw [h.sz]; exact hd
   by_cases hi : i = d
   · subst hi
     have := z7Y (β' := fun i => if i < E.nb then E.β0 i else none) (F' := fun _ => False) (w' := w') hpl hx
     simpa [St.of, z2S, Act.put, hlt] using this
   · have : (St.of [(d, x)] []).tm i = .c .un := by
       simp only [St.of, z2S]
       split
       · rename_i e; exact absurd (Nat.eq_of_beq_eq_true e) hi
       · rfl
     rw [this]
     exact .any _
 · exact trivial
 · exact absurd rfl hi
 · exact absurd rfl hi
 · by_cases hi : i < E.nb
   · rw [if_pos hi] at e
     have := h.lt i g (by rw [h.bb i hi]; exact e)
     omega
   · rw [if_neg hi] at e; cases e
end
end Go.Sx

namespace Go.Proofs.YtaagjnlkinojcaaGreat
set_option linter.unusedSimpArgs false
set_option linter.unusedVariables false
open Go.Sx
set_option maxRecDepth 10000
abbrev I64 (l : List Int) : Av := .c (.lf (.ints .i64 l))
def inR (x : Int) : Bool := !(decide (x < 0) || decide (2147483647 < x))
def z0N : List Int → Bool
 | a :: b :: t => if 30 < t.length then false else if (a :: b :: t).all inR = false then false else
     if a = 0 ∨ a = 1 then decide (b < 40) else if a = 2 then decide (b ≤ 2147483567) else false
 | _ => false
theorem z1m (a b : Int) (t : List Int) : z0N (a :: b :: t) = if 30 < t.length then false else if (a :: b :: t).all inR = false then false else
     if a = 0 ∨ a = 1 then decide (b < 40) else if a = 2 then decide (b ≤ 2147483567) else false := rfl
theorem zbS {l : List Int} {i : Nat} (h : i < l.length) (h1 : inR (l.getD i 0) = false) : l.all inR = false := by
 rw [List.all_eq_false]
 refine ⟨l[i], List.getElem_mem h, ?_⟩
 rw [List.getD_eq_getElem?_getD, List.getElem?_eq_getElem h] at h1
 simpa using h1
theorem zaU {l : List Int} {i : Nat} (h : i < l.length) (h0 : (l.take i).all inR = true) (h1 : inR (l.getD i 0) = true) : (l.take (i + 1)).all inR = true := by
 rw [List.take_add_one, List.all_append, h0, List.getElem?_eq_getElem h]
 rw [List.getD_eq_getElem?_getD, List.getElem?_eq_getElem h] at h1
 simpa using h1
theorem z9y (o : List Int) (hl : o.length ≤ 16000000) : Ct Tryz.prog 241 [I64 o] [] (lv (.bool (z0N o))) [] [] := by
 obtain ⟨R, hR⟩ : ∃ R, z0N o = R := ⟨_, rfl⟩
 rw [hR]
 refine z00 Tryz.func241 rfl rfl rfl rfl rfl (fun E hn hb => ?_)
 repeat (refine nst ?_)
 refine z04 rfl (by simp) (fun hc => ?_) (fun hc => ?_)
 · have : R = false := by
     rw [← hR]
     simp at hc
     match o, hc with
     | [], _ => rfl
     | [_], _ => rfl
     | a :: b :: t, hc => simp at hc; rw [z1m, if_pos (by omega)]
   subst this
   repeat (refine nst ?_)
   exact rt1 []
 · have hlen : 2 ≤ o.length ∧ o.length ≤ 32 := by simp at hc; omega
   repeat (refine nst ?_)
   refine z0d (St.le_of (l := [(0, I64 o), (13, I64 o), (14, lv (.int .i64 (o.length : Int))), (15, lv (.int .i64 ((0 : Nat) : Int)))]) (h := []) (by refine ⟨?_, ?_⟩ <;> (repeat' (first | exact trivial | exact rfl | refine ⟨?_, ?_⟩)) <;> first | exact rfl | (simp; done) | skip)) ?_
   refine z0l (ι := {i : Nat // i ≤ o.length ∧ (o.take i).all inR = true}) (fun i => St.of [(0, I64 o), (13, I64 o), (14, lv (.int .i64 (o.length : Int))), (15, lv (.int .i64 (i.1 : Int)))] []) (fun i => o.length - i.1) (fun i => ?_) ⟨0, by omega, by simp⟩
   obtain ⟨i, hi, ha⟩ := i
   dsimp only
   repeat (refine nst ?_)
   refine z04 rfl (by simp) (fun hc => ?_) (fun hc => ?_)
   · have hi2 : i < o.length := by simpa using hc
     repeat (refine nst ?_)
     refine z04 rfl (by simp) (fun h2 => ?_) (fun h2 => ?_)
     · have : R = false := by
         rw [← hR]
         have hg := zbS hi2 (by simp [Bool.cond_eq_ite] at h2; simp only [inR, Bool.not_eq_false', Bool.or_eq_true, decide_eq_true_eq]; rw [List.getD_eq_getElem?_getD]; omega)
         match o, hlen, hg with
         | a :: b :: t, hlen, hg => rw [z1m, hg]; simp
       subst this
       repeat (refine nst ?_)
       exact rt1 []
     · repeat (refine nst ?_)
       (refine z0a ?i1 ?i2 ?i3; (case i1 => exact ⟨i + 1, by omega, zaU hi2 ha (by simp [Bool.cond_eq_ite] at h2; simp only [inR, Bool.not_eq_true', Bool.or_eq_false_iff, decide_eq_false_iff_not]; rw [List.getD_eq_getElem?_getD]; omega)⟩); (case i2 => (dsimp only; omega)); (case i3 => refine St.le_of ⟨?_, ?_⟩ <;> (repeat' (first | exact trivial | exact rfl | refine ⟨?_, ?_⟩)) <;> first | exact rfl | (simp; done) | skip))
   · have : i = o.length := by simp at hc; omega
     subst this
     rw [List.take_length] at ha
     clear hi
     match o, hlen, ha, hR with
     | a :: b :: t, hlen, ha, hR =>
     have h30 : ¬ 30 < t.length := by simp at hlen; omega
     rw [z1m, if_neg h30, ha, if_neg (by simp)] at hR
     repeat (refine nst ?_)
     refine z04 rfl (by simp) (fun h0 => ?_) (fun h0 => ?_)
     · have h0' : a = 0 := by simpa using h0
       rw [if_pos (.inl h0')] at hR
       subst hR
       repeat (refine nst ?_)
       refine z04 rfl (by simp) (fun h1 => ?_) (fun h1 => ?_)
       · repeat (refine nst ?_)
         exact rt1 []
       · rw [h0] at h1; simp at h1
     · have h0' : a ≠ 0 := by simpa using h0
       repeat (refine nst ?_)
       refine z04 rfl (by simp) (fun h1 => ?_) (fun h1 => ?_)
       · have h1' : a = 1 := by simpa using h1
         rw [if_pos (.inr h1')] at hR
         subst hR
         repeat (refine nst ?_)
         exact rt1 []
       · have h1' : a ≠ 1 := by simpa using h1
         rw [if_neg (by omega)] at hR
         repeat (refine nst ?_)
         refine z04 rfl (by simp) (fun h2 => ?_) (fun h2 => ?_)
         · have h2' : a = 2 := by simpa using h2
           rw [if_pos h2'] at hR
           subst hR
           repeat (refine nst ?_)
           exact rt1 []
         · have h2' : a ≠ 2 := by simpa using h2
           rw [if_neg h2'] at hR
           subst hR
           repeat (refine nst ?_)
           exact rt1 []
end Go.Proofs.YtaagjnlkinojcaaGreat

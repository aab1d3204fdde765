/-
  A call that borrows blocks and makes one, in a region of open order. No condition.
-/
import Derived.Test.YtaagjnlkinojcaaGreatDoorE3
import Derived.Test.YtaagjnlkinojcaaGreatDoorC13
import Derived.Test.YtaagjnlkinojcaaGreatDoorC9
import Derived.Test.YtaagjnlkinojcaaGreatDoorSxQ
namespace Go.Proofs.YtaagjnlkinojcaaGreatDoor
set_option linter.unusedSimpArgs false
set_option linter.unusedVariables false
open Go.Sx
set_option maxRecDepth 10000
theorem ext_get {α : Type} [Inhabited α] {l m : List α} (h : l.length = m.length) (h2 : ∀ j, j < l.length → l.getD j default = m.getD j default) : l = m := by
 apply List.ext_getElem h
 intro i h3 h4
 have := h2 i h3
 simpa [List.getD_eq_getElem?_getD, List.getElem?_eq_getElem h3, List.getElem?_eq_getElem h4] using this
set_option maxHeartbeats 16000000 in
theorem like_ok (l m : List ExT) (hl : l.length ≤ 1000000) (hm : m.length ≤ 1000000) (h : ∀ e ∈ l, okE e) (h' : ∀ e ∈ m, okE e) : Ct Tryz.prog 13 [exR l, exR m] [] (lv (.bool (decide (l = m)))) [] [] := by
 obtain ⟨B, hB⟩ : ∃ B, decide (l = m) = B := ⟨_, rfl⟩
 rw [hB]
 have hlm : (l.map exL).length = l.length := List.length_map ..
 have hmm : (m.map exL).length = m.length := List.length_map ..
 by_cases hne : l.length = m.length
 · refine Ct_intro Tryz.func13 rfl rfl rfl rfl rfl (fun E hn hb => ?_)
   repeat refine nx ?_
   refine W_weaken (St.le_of (l := [(0, exR l), (1, exR m), (5, lv (.int .i64 ((0 : Nat) : Int)))]) (h := []) (by refine ⟨?_, ?_⟩ <;> (repeat' (first | exact trivial | exact rfl | refine ⟨?_, ?_⟩)) <;> first | exact rfl | (simp; done) | skip)) ?_
   refine W_loop (ι := {i : Nat // i ≤ l.length ∧ ∀ j, j < i → l.getD j default = m.getD j default}) (fun i => St.of [(0, exR l), (1, exR m), (5, lv (.int .i64 (i.1 : Int)))] []) (fun i => l.length - i.1) (fun i => ?_) ⟨0, by omega, fun j h => by omega⟩
   obtain ⟨i, hi, hj⟩ := i
   dsimp only
   by_cases hi2 : i < l.length
   · have o1 := okE_get h i hi2
     have o2 := okE_get h' i (by omega)
     have c1 := refSame_ok (l.getD i default).1 (m.getD i default).1 o1.1 o2.1
     have c2 := same_ok (l.getD i default).2.2 (m.getD i default).2.2 o1.2 o2.2
     have hq : l.getD (i : Int).toNat default = l.getD i default := rfl
     have hr : m.getD (i : Int).toNat default = m.getD i default := rfl
     by_cases hxy : l.getD i default = m.getD i default
     · have hj2 : ∀ j, j < i + 1 → l.getD j default = m.getD j default := fun j h => by
         by_cases h3 : j = i
         · subst h3; exact hxy
         · exact hj j (by omega)
       rw [hxy] at hq c1 c2
       rw [decide_eq_true rfl] at c1 c2
       clear hxy
       generalize m.getD i default = y at *
       obtain ⟨yo, yc, yv⟩ := y
       dsimp only at c1 c2
       cases yc <;>
       · repeat (first | refine nx ?_ | rw [hq] | rw [hr])
         refine N_round ⟨i + 1, by omega, hj2⟩ (by dsimp only; omega) (St.le_of ⟨⟨rfl, rfl, rfl⟩, trivial⟩)
     · have hBf : B = false := by
         rw [← hB]
         exact decide_eq_false fun e => hxy (by rw [e])
       subst hBf
       generalize l.getD i default = x at *
       generalize m.getD i default = y at *
       obtain ⟨xo, xc, xv⟩ := x
       obtain ⟨yo, yc, yv⟩ := y
       dsimp only at c1 c2
       by_cases e1 : xo = yo
       · rw [decide_eq_true e1] at c1
         by_cases e2 : xc = yc
         · have e3 : ¬ xv = yv := fun e3 => hxy (by rw [e1, e2, e3])
           rw [decide_eq_false e3] at c2
           subst e2
           cases xc <;>
           · repeat (first | refine nx ?_ | rw [hq] | rw [hr])
             exact rt1 []
         · generalize decide (xv = yv) = b3 at *
           cases xc <;> cases yc <;> first | exact absurd rfl e2 | skip
           all_goals
             repeat (first | refine nx ?_ | rw [hq] | rw [hr])
             exact rt1 []
       · rw [decide_eq_false e1] at c1
         generalize decide (xv = yv) = b3 at *
         repeat (first | refine nx ?_ | rw [hq] | rw [hr])
         exact rt1 []
   · obtain rfl : i = l.length := by omega
     have hBt : B = true := by
       rw [← hB]
       exact decide_eq_true (ext_get hne hj)
     subst hBt
     repeat refine nx ?_
     exact rt1 []
 · have hBf : B = false := by
     rw [← hB]
     exact decide_eq_false fun e => hne (by rw [e])
   subst hBf
   refine Ct_intro Tryz.func13 rfl rfl rfl rfl rfl (fun E hn hb => ?_)
   repeat refine nx ?_
   exact rt1 []

theorem filter_next {α : Type} [Inhabited α] (p : α → Bool) (l : List α) (i : Nat) (h : i < l.length) : (l.take (i + 1)).filter p = (l.take i).filter p ++ (if p (l.getD i default) = true then [l.getD i default] else []) := by
 rw [List.take_add_one, List.filter_append, List.getD_eq_getElem?_getD, List.getElem?_eq_getElem h]
 simp only [Option.toList_some, Option.getD_some, List.filter_cons, List.filter_nil]

def dropE (l : List ExT) (o : List Int) : List ExT := l.filter fun e => !decide (e.1 = o)
structure DelI (l : List ExT) (o : List Int) (cur : List ExT) (i j : Nat) : Prop where
 le : i ≤ j
 jl : j ≤ l.length
 len : cur.length = l.length
 front : cur.take i = dropE (l.take j) o
 back : cur.drop j = l.drop j
theorem DelI.get {l cur : List ExT} {o : List Int} {i j : Nat} (h : DelI l o cur i j) (hj : j < l.length) : cur.getD j default = l.getD j default := by
 have h1 := congrArg (fun x => x.getD 0 default) h.back
 simpa [List.getD_eq_getElem?_getD, List.getElem?_drop] using h1
theorem DelI.skip {l cur : List ExT} {o : List Int} {i j : Nat} (h : DelI l o cur i j) (hj : j < l.length) (he : (l.getD j default).1 = o) : DelI l o cur i (j + 1) := by
 refine ⟨by have := h.le; omega, by omega, h.len, ?_, ?_⟩
 · rw [h.front]
   have := filter_next (fun e : ExT => !decide (e.1 = o)) l j hj
   rw [if_neg (by rw [decide_eq_true he]; simp), List.append_nil] at this
   exact this.symm
 · have := congrArg (List.drop 1) h.back
   rwa [List.drop_drop, List.drop_drop] at this
theorem DelI.keep {l cur : List ExT} {o : List Int} {i j : Nat} (h : DelI l o cur i j) (hj : j < l.length) (he : ¬ (l.getD j default).1 = o) : DelI l o (cur.set i (l.getD j default)) (i + 1) (j + 1) := by
 have hle := h.le
 have hlen := h.len
 refine ⟨by omega, by omega, by simpa using hlen, ?_, ?_⟩
 · have := filter_next (fun e : ExT => !decide (e.1 = o)) l j hj
   rw [if_pos (by rw [decide_eq_false he]; rfl)] at this
   unfold dropE
   rw [this]
   have h2 := h.front
   unfold dropE at h2
   rw [← h2, List.take_add_one, List.getElem?_set_self (by omega), List.take_set_of_le (Nat.le_refl i)]
   rfl
 · rw [List.drop_set_of_lt (by omega)]
   have := congrArg (List.drop 1) h.back
   rwa [List.drop_drop, List.drop_drop] at this

def isH (l : List Int) (p : Nat) (t : TagP) : Bool := decide ((readP l p).2.2 = 0) && decide ((readP l p).1.1 = t)
theorem hdis_ok (l : List Int) (p : Nat) (t : TagP) (hp : p ≤ l.length) (hl : l.length ≤ 1000000) (hw : WfB l) : Ct Tryz.prog 65 [.c (.ptr 0 0), tagA t] [curB l p] (lv (.bool (isH l p t))) [curB l p] [] := by
 have hat := at_ok l p
 have hrd := read_ok l p hp hl hw
 have hle := readP_le l p hp
 unfold isH
 generalize readP l p = R at *
 obtain ⟨⟨u, n⟩, q, e⟩ := R
 dsimp only at *
 have hbk := back_ok l q p hle.1 (by omega)
 obtain ⟨u1, u2, u3⟩ := u
 obtain ⟨t1, t2, t3⟩ := t
 by_cases he : e = 0
 · subst he
   obtain ⟨B, hB⟩ : ∃ B, (decide ((0 : Int) = 0) && decide ((u1, u2, u3) = (t1, t2, t3))) = B := ⟨_, rfl⟩
   rw [hB]
   refine Ct_intro Tryz.func65 rfl rfl rfl rfl rfl (fun E hn hb => ?_)
   repeat refine nx ?_
   refine rt2 [] ?_ ?_
   · refine congrArg (fun x => lv (.bool x)) ?_
     rw [← hB]
     simp [eqCs, Cell.kill, Cell.kill1, Bool.and_assoc]
     try rfl
   · trivial
 · rw [decide_eq_false he]
   refine Ct_intro Tryz.func65 rfl rfl rfl rfl rfl (fun E hn hb => ?_)
   repeat refine nx ?_
   refine rt2 [] ?_ ?_
   · refine congrArg (fun x => lv (.bool x)) ?_
     simp [he]
   · trivial
theorem pbool_ok (x : List Int) (hl : x.length ≤ 1000000) : Ct Tryz.prog 108 [B8 x] [] (.tup [lv (.bool (decide (x = [255]))), lv (.int .i64 (if x = [0] ∨ x = [255] then 0 else 6))]) [] [] := by
 match x with
 | [] =>
   refine Ct_intro Tryz.func108 rfl rfl rfl rfl rfl (fun E hn hb => ?_)
   repeat refine nx ?_
   exact rt1 []
 | [u] =>
   by_cases h0 : u = 0
   · subst h0
     refine Ct_intro Tryz.func108 rfl rfl rfl rfl rfl (fun E hn hb => ?_)
     repeat refine nx ?_
     exact rt1 []
   · by_cases h1 : u = 255
     · subst h1
       refine Ct_intro Tryz.func108 rfl rfl rfl rfl rfl (fun E hn hb => ?_)
       repeat refine nx ?_
       exact rt1 []
     · rw [if_neg (by simp [h0, h1]), decide_eq_false (by simp [h1])]
       refine Ct_intro Tryz.func108 rfl rfl rfl rfl rfl (fun E hn hb => ?_)
       repeat refine nx ?_
       exact rt1 []
 | u :: v :: t =>
   rw [if_neg (by simp), decide_eq_false (by simp)]
   refine Ct_intro Tryz.func108 rfl rfl rfl rfl rfl (fun E hn hb => ?_)
   repeat refine nx ?_
   exact rt1 []
def boolR (l : List Int) (p : Nat) : Bool × Nat × Int :=
 let r := openP l p (ofT 1)
 if r.2.2 = 0 then (if r.1 = [0] ∨ r.1 = [255] then (decide (r.1 = [255]), r.2.1, 0) else (false, p, 6)) else (false, p, r.2.2)
theorem boolR_le (l : List Int) (p : Nat) (hp : p ≤ l.length) : p ≤ (boolR l p).2.1 ∧ (boolR l p).2.1 ≤ l.length := by
 have h := openP_le l p (ofT 1) hp
 unfold boolR
 dsimp only
 split
 · split
   · exact h
   · exact ⟨Nat.le_refl _, hp⟩
 · exact ⟨Nat.le_refl _, hp⟩
theorem rbool0_ok (l : List Int) (p : Nat) (hp : p ≤ l.length) (hl : l.length ≤ 1000000) (hw : WfB l) : Ct Tryz.prog 107 [.c (.ptr 0 0), lv (.int .i64 1), .c (.fn (.func 108) [] [])] [curB l p] (.tup [lv (.bool (boolR l p).1), lv (.int .i64 (boolR l p).2.2)]) [curB l (boolR l p).2.1] [] := by
 have hat := at_ok l p
 have hho := headof_ok 1
 have hop := open_ok l p (ofT 1) hp hl hw
 have hoe := open_err l p (ofT 1) hp hl hw
 have hle := openP_le l p (ofT 1) hp
 have hmem := openP_mem l p (ofT 1)
 unfold boolR
 generalize openP l p (ofT 1) = X at *
 obtain ⟨x, q, e⟩ := X
 dsimp only at *
 by_cases he : e = 0
 · subst he
   have hop := hop rfl
   rw [if_pos rfl]
   have hre := rest_ok x 0 (Nat.zero_le _) (by omega)
   rw [List.drop_zero] at hre
   have hpa := pbool_ok x (by omega)
   have hbk := back_ok l q p hle.1 (by omega)
   by_cases hs : x = [0] ∨ x = [255]
   · rw [if_pos hs] at hpa ⊢
     generalize decide (x = [255]) = b at *
     refine Ct_intro Tryz.func107 rfl rfl rfl rfl rfl (fun E hn hb => ?_)
     repeat refine nx ?_
     exact rt1 []
   · rw [if_neg hs] at hpa ⊢
     rw [decide_eq_false fun h => hs (.inr h)] at hpa
     refine Ct_intro Tryz.func107 rfl rfl rfl rfl rfl (fun E hn hb => ?_)
     repeat refine nx ?_
     exact rt1 []
 · have hoe := hoe he
   rw [if_neg he]
   refine Ct_intro Tryz.func107 rfl rfl rfl rfl rfl (fun E hn hb => ?_)
   repeat refine nx ?_
   exact rt1 []
theorem rbool_ok (l : List Int) (p : Nat) (hp : p ≤ l.length) (hl : l.length ≤ 1000000) (hw : WfB l) : Ct Tryz.prog 78 [.c (.ptr 0 0)] [curB l p] (.tup [lv (.bool (boolR l p).1), lv (.int .i64 (boolR l p).2.2)]) [curB l (boolR l p).2.1] [] := by
 have h := rbool0_ok l p hp hl hw
 refine Ct_intro Tryz.func78 rfl rfl rfl rfl rfl (fun E hn hb => ?_)
 repeat refine nx ?_
 exact rt1 []
theorem octs_ok (x : List Int) : Ct Tryz.prog 80 [B8 x] [] (.tup [B8 x, lv (.int .i64 0)]) [] [] := by
 refine Ct_intro Tryz.func80 rfl rfl rfl rfl rfl (fun E hn hb => ?_)
 repeat refine nx ?_
 exact rt1 []
theorem roct0_ok (l : List Int) (p : Nat) (hp : p ≤ l.length) (hl : l.length ≤ 1000000) (hw : WfB l) : Ct Tryz.prog 79 [.c (.ptr 0 0), lv (.int .i64 4), .c (.fn (.func 80) [] [])] [curB l p] (.tup [B8 (openP l p (ofT 4)).1, lv (.int .i64 (openP l p (ofT 4)).2.2)]) [curB l (openP l p (ofT 4)).2.1] [] := by
 have hat := at_ok l p
 have hho := headof_ok 4
 have hop := open_ok l p (ofT 4) hp hl hw
 have hoe := open_err l p (ofT 4) hp hl hw
 have hle := openP_le l p (ofT 4) hp
 have hmem := openP_mem l p (ofT 4)
 have hke : ¬ (openP l p (ofT 4)).2.2 = 0 → (openP l p (ofT 4)).1 = [] ∧ (openP l p (ofT 4)).2.1 = p := fun h => by
   unfold openP keepP at h ⊢
   by_cases h2 : (rawO l p (ofT 4)).2.2 = 0
   · rw [if_pos h2] at h; exact absurd h2 h
   · rw [if_neg h2]; exact ⟨rfl, rfl⟩
 generalize openP l p (ofT 4) = X at *
 obtain ⟨x, q, e⟩ := X
 dsimp only at *
 by_cases he : e = 0
 · subst he
   have hop := hop rfl
   have hre := rest_ok x 0 (Nat.zero_le _) (by omega)
   rw [List.drop_zero] at hre
   have hpa := octs_ok x
   refine Ct_intro Tryz.func79 rfl rfl rfl rfl rfl (fun E hn hb => ?_)
   repeat refine nx ?_
   exact rt1 []
 · have hoe := hoe he
   obtain ⟨rfl, rfl⟩ := hke he
   refine Ct_intro Tryz.func79 rfl rfl rfl rfl rfl (fun E hn hb => ?_)
   repeat refine nx ?_
   exact rtU []
theorem roct_ok (l : List Int) (p : Nat) (hp : p ≤ l.length) (hl : l.length ≤ 1000000) (hw : WfB l) : Ct Tryz.prog 37 [.c (.ptr 0 0)] [curB l p] (.tup [B8 (openP l p (ofT 4)).1, lv (.int .i64 (openP l p (ofT 4)).2.2)]) [curB l (openP l p (ofT 4)).2.1] [] := by
 have h := roct0_ok l p hp hl hw
 refine Ct_intro Tryz.func37 rfl rfl rfl rfl rfl (fun E hn hb => ?_)
 repeat refine nx ?_
 exact rt1 []
def critR (l : List Int) (p : Nat) : Bool × Nat × Int :=
 if isH l p (ofT 1) = true then (let r := boolR l p; (r.1, r.2.1, if r.2.2 = 0 ∧ r.1 = false then 6 else r.2.2)) else (false, p, 0)
theorem critR_le (l : List Int) (p : Nat) (hp : p ≤ l.length) : p ≤ (critR l p).2.1 ∧ (critR l p).2.1 ≤ l.length := by
 have h := boolR_le l p hp
 unfold critR
 dsimp only
 split
 · exact h
 · exact ⟨Nat.le_refl _, hp⟩
theorem crit_ok (l : List Int) (p : Nat) (hp : p ≤ l.length) (hl : l.length ≤ 1000000) (hw : WfB l) : Ct Tryz.prog 36 [.c (.ptr 0 0)] [curB l p] (.tup [lv (.bool (critR l p).1), lv (.int .i64 (critR l p).2.2)]) [curB l (critR l p).2.1] [] := by
 have hho := headof_ok 1
 have his := hdis_ok l p (ofT 1) hp hl hw
 have hb := rbool_ok l p hp hl hw
 have hb' := hb
 clear hb
 unfold critR
 cases hi : isH l p (ofT 1) with
 | false =>
   rw [hi] at his
   rw [if_neg (by simp)]
   refine Ct_intro Tryz.func36 rfl rfl rfl rfl rfl (fun E hn hb => ?_)
   repeat refine nx ?_
   exact rt1 []
 | true =>
   rw [hi] at his
   rw [if_pos rfl]
   generalize boolR l p = R at *
   obtain ⟨b, q, e⟩ := R
   dsimp only at *
   by_cases he : e = 0
   · subst he
     cases b with
     | false =>
       rw [if_pos ⟨rfl, rfl⟩]
       refine Ct_intro Tryz.func36 rfl rfl rfl rfl rfl (fun E hn hb => ?_)
       repeat refine nx ?_
       exact rt1 []
     | true =>
       rw [if_neg (by simp)]
       refine Ct_intro Tryz.func36 rfl rfl rfl rfl rfl (fun E hn hb => ?_)
       repeat refine nx ?_
       exact rt1 []
   · rw [if_neg (fun h => he h.1)]
     refine Ct_intro Tryz.func36 rfl rfl rfl rfl rfl (fun E hn hb => ?_)
     repeat refine nx ?_
     exact rt1 []
end Go.Proofs.YtaagjnlkinojcaaGreatDoor

namespace Go.Sx
open Go
set_option linter.unusedVariables false
set_option linter.unusedSimpArgs false
theorem allP_ofE {α : Type} {f : α → Prop} : ∀ {l : List α}, (∀ p, p ∈ l → f p) → AllP (l.map f)
 | [], _ => trivial
 | [p], h => h p (List.mem_singleton.2 rfl)
 | p :: q :: l, h => ⟨h p (List.mem_cons_self ..), allP_ofE (l := q :: l) fun r hr => h r (List.mem_cons_of_mem _ hr)⟩
theorem ordL_memE {α : Type} : ∀ (l : List α) (n : Nat) (p : Nat × α), p ∈ ordL n l → ∃ i : Nat, p.1 = n + i ∧ l[i]? = some p.2
 | [], n, p, h => by cases h
 | y :: l, n, p, h => by
   rcases List.mem_cons.1 h with rfl | h
   · exact ⟨0, rfl, rfl⟩
   · obtain ⟨i, h1, h2⟩ := ordL_memE l (n + 1) p h
     exact ⟨i + 1, by omega, h2⟩
theorem fndB_no : ∀ {l : List (Nat × Blk)} {k : Nat}, k ∉ l.map (·.1) → fndB l k = none
 | [], k, _ => rfl
 | (j, b) :: l, k, h => by
   simp only [List.map_cons, List.mem_cons, not_or] at h
   simp only [fndB, show Nat.beq k j = false from Bool.eq_false_iff.2 fun e => h.1 (Nat.eq_of_beq_eq_true e)]
   exact fndB_no h.2
theorem fndB_mem : ∀ {l : List (Nat × Blk)} {k : Nat}, fndB l k = none → k ∉ l.map (·.1)
 | [], k, _ => by simp
 | (j, b) :: l, k, h => by
   simp only [fndB] at h
   cases hb : Nat.beq k j with
   | true => rw [hb] at h; cases h
   | false =>
     rw [hb] at h
     simp only [List.map_cons, List.mem_cons, not_or]
     exact ⟨fun e => (by rw [e, Nat.beq_refl] at hb; cases hb), fndB_mem h⟩
theorem sets_upd : ∀ (l : List (Nat × Blk)) (σ : St), (l.map (·.1)).Nodup → σ.sets l = ⟨σ.tm, updB σ.hp l⟩
 | [], σ, _ => rfl
 | (j, b) :: l, σ, h => by
   simp only [List.map_cons, List.nodup_cons] at h
   show (σ.seth j b).sets l = _
   rw [sets_upd l _ h.2]
   refine congrArg (St.mk σ.tm) ?_
   funext i
   rw [updB_eq, updB_eq]
   simp only [fndB]
   cases hb : Nat.beq i j with
   | true =>
     rw [Nat.eq_of_beq_eq_true hb, fndB_no h.1]
     simp [St.seth]
   | false =>
     have : i ≠ j := fun e => by rw [e, Nat.beq_refl] at hb; cases hb
     dsimp only
     cases fndB l i <;> simp [St.seth, this]
theorem sets_app : ∀ (l m : List (Nat × Blk)) (σ : St), (σ.sets l).sets m = σ.sets (l ++ m)
 | [], m, σ => rfl
 | (j, b) :: l, m, σ => sets_app l m (σ.seth j b)
section
variable {P : Program} {E : Env} {ops : Array Oper} {o : Oper} {σ : St}
theorem lenNK (d : Option Nat) : ∀ n, (newKeys d n).length = n := by intro n; induction n with
 | zero => rfl
 | succ n ih => simp [newKeys, ih]
theorem DU_cn {ns b own : List Nat} {bs : List (List Nat × List Nat)} {l : List Oper} {K : St → Prop} {c : Call} {fo : Operand} {f : FuncId} {first cap : List Cell} {pf : List Prop} {xs : List Av} {bor bor' : List Blk} {news : List Blk} {res : Av} {nt dn : Nat} (ks : List Nat) (hn : E.n = nt) (hF : Ct P f xs bor res bor' news) (hop : o.op = .call c) (hg : o.guard = none) (hd : o.dst = some dn) (hE0 : dstOk nt o.dst = true)
   (hcv : c.callee = .value fo) (hfo : ox ⟨σ.tm, fgt b σ.hp⟩ fo = (pf, .c (.fn (.func f) first cap))) (hC : CallOk ⟨σ.tm, fgt b σ.hp⟩ (first.map Av.c ++ (oxs ⟨σ.tm, fgt b σ.hp⟩ c.args.toList).2 ++ cap.map Av.c) xs bor res bor' news ks (some dn))
   (hp : AllP (pf ++ (oxs ⟨σ.tm, fgt b σ.hp⟩ c.args.toList).1)) (hlen : ks.length = bor'.length) (hns : news.length = 0 ∨ (news.length = 1 ∧ memB (nk (some dn) 0) ns = true)) (hown : (ks ++ newKeys (some dn) news.length).all (fun k => memB k own) = true)
   (hk : DrawU P E ops ns bs l ((afterCall σ ks (some dn) bor' news).put (some dn) (res.ren (crho ks (some dn) news.length))) K) : DrawU P E ops ns ((b, own) :: bs) (o :: l) σ K := by
 have hnd : (ks ++ newKeys (some dn) news.length).Nodup := by
   have := hC.cok
   simp only [Bool.and_eq_true] at this
   simpa using this.2
 obtain ⟨u, hu⟩ : ∃ u, zipB ks (bor'.map (Blk.ren (crho ks (some dn) news.length))) ++ zipB (newKeys (some dn) news.length) (news.map (Blk.ren (crho ks (some dn) news.length))) = u := ⟨_, rfl⟩
 have hfst : u.map (·.1) = ks ++ newKeys (some dn) news.length := by
   rw [← hu, List.map_append, zipB_fst _ _ (by simpa using hlen), zipB_fst _ _ (by simp [lenNK])]
 have eaf : ∀ τ : St, afterCall τ ks (some dn) bor' news = ⟨τ.tm, updB τ.hp u⟩ := fun τ => by
   unfold afterCall
   rw [sets_app, hu]
   exact sets_upd u τ (by rw [hfst]; exact hnd)
 rw [eaf] at hk
 refine DU_stepG (x := res.ren (crho ks (some dn) news.length)) (u := u) ?_ (fun j hj => ?_) (by rw [hd]; exact hk)
 · intro τ hl β F a w hS hnn KK Q hK
   rw [show Region.wanted o (yielded ops a.tmps) = true by simp [Region.wanted, hg], if_pos rfl]
   have hcut : SRb E β F ⟨τ.tm, fgt b σ.hp⟩ a w := hS.cut hl
   have x1 : ox ⟨τ.tm, fgt b σ.hp⟩ fo = ox ⟨σ.tm, fgt b σ.hp⟩ fo := hl.ox fo (by rw [hop]; simp [Op.operands, Call.operands, hcv])
   have x2 : oxs ⟨τ.tm, fgt b σ.hp⟩ c.args.toList = oxs ⟨σ.tm, fgt b σ.hp⟩ c.args.toList := oxs_like (o := o) (τ := ⟨τ.tm, fgt b σ.hp⟩) (σ := ⟨σ.tm, fgt b σ.hp⟩) (fun y hy => hl.ox y hy) _ fun y hy => by
     rw [hop]; simp only [Op.operands, Call.operands]; simp at hy ⊢; first | exact .inr hy | exact .inl hy | simp [hy]
   have hfv := oxR hcut fo
   rw [x1, hfo] at hfv
   have hfv := hfv hp.left
   generalize hv : a.eval fo = fv at hfv
   cases hfv with | c hfv => cases hfv with | fn _ _ _ f1 c1 n1 n2 r1 r2 =>
   obtain ⟨l1, l2⟩ := oxs_R hcut c.args.toList (by rw [x2]; exact hp.right)
   rw [x2] at l1 l2
   have hrun : (execOp a.eval o).run P w = .ok (.enter f (f1 ++ c.args.map a.eval ++ c1)) w := by
     simp only [execOp, hop, resolve, hcv, hv, Deferred.ofValue, Sem.run_bind, Sem.run_pure, Result.andThen_ok, invoke]
     exact run_callFunc hF.2.1
   unfold Oper.wp
   rw [hrun, Oper.upon_enter]
   have hbor : ∀ i blk, bor[i]? = some blk → τ.hp (ks.getD i 0) = blk.ren (crho ks (some dn) news.length) := fun i blk hi => by
     have h1 := allP_map hC.cbor _ (mem_ordL bor 0 i blk hi)
     have h2 := allP_map hC.cgone _ (mem_ordL bor 0 i blk hi)
     have h1 : fgt b σ.hp (ks.getD i 0) = blk.ren (crho ks (some dn) news.length) := by simpa using h1
     have h2 : blk ≠ .gone := by simpa using h2
     rw [fgt_eq] at h1
     cases hb : memB (ks.getD i 0) b with
     | true =>
       rw [hb] at h1
       exact absurd h1.symm (Blk.ren_ne h2)
     | false =>
       rw [hb] at h1
       rw [hl.hp _ hb]
       exact h1
   have hC2 : CallOk τ (first.map Av.c ++ (oxs ⟨σ.tm, fgt b σ.hp⟩ c.args.toList).2 ++ cap.map Av.c) xs bor res bor' news ks (some dn) := ⟨hC.cargs, allP_ofE fun p hp => by
     obtain ⟨i, blk⟩ := p
     obtain ⟨k, hk1, hk2⟩ := ordL_memE bor 0 _ hp
     dsimp only at hk1 ⊢
     have := hbor k blk hk2
     rw [hk1, Nat.zero_add]
     exact this, hC.cgone, hC.cok⟩
   have hcore := call_coreB (σ := τ) (bs := ks) (d := some dn) (vs := (f1 ++ c.args.map a.eval ++ c1).toList) hF hS (fun i => by
     rcases hns with h0 | ⟨h0, h1⟩
     · exact .inr (by omega)
     · rcases Nat.lt_or_ge i 1 with h | h
       · obtain rfl : i = 0 := by omega
         exact .inl (hnn dn hd h1)
       · exact .inr (by omega)) hC2 (by simp [n1, n2, l1]) (fun i y v hy hv => by
     simp only [Array.toList_append, List.append_assoc] at hv
     rw [List.append_assoc] at hy
     rcases Nat.lt_or_ge i first.length with h | h
     · rw [List.getElem?_append_left (by simpa using h)] at hy
       rw [List.getElem?_append_left (by simp [n1]; exact h)] at hv
       rw [List.getElem?_map, Option.map_eq_some_iff] at hy
       obtain ⟨x, hx, rfl⟩ := hy
       exact .c (r1 i x v hx (by simpa using hv))
     · rw [List.getElem?_append_right (by simpa using h)] at hy
       rw [List.getElem?_append_right (by simp [n1]; exact h)] at hv
       simp only [List.length_map, Array.length_toList, n1] at hy hv
       rcases Nat.lt_or_ge (i - first.length) c.args.toList.length with h' | h'
       · rw [List.getElem?_append_left (by rw [l1]; exact h')] at hy
         rw [List.getElem?_append_left (by simpa using h')] at hv
         exact l2 _ y v hy (by simpa using hv)
       · rw [List.getElem?_append_right (by rw [l1]; exact h')] at hy
         rw [List.getElem?_append_right (by simpa using h')] at hv
         rw [List.getElem?_map, Option.map_eq_some_iff] at hy
         obtain ⟨x, hx, rfl⟩ := hy
         refine .c (r2 _ x v hx ?_)
         simp only [l1] at hx
         simpa [l1] using hv)
   rw [Array.toArray_toList] at hcore
   refine hcore.mono fun e w' hq => ?_
   obtain ⟨v, rfl, β', F', hv', hβ', hS'⟩ := hq
   rw [eaf] at hS'
   refine hK _ _ β' F' ?_ fun k hk => hβ' k fun hm => fndB_mem hk (by rw [hfst]; exact List.mem_append_right _ hm)
   rw [hd]
   exact hS'.put hv' (dstOk_lt (by rw [hn, ← hd]; exact hE0))
 · have hm : j ∈ ks ++ newKeys (some dn) news.length := by
     rw [← hfst]
     exact Classical.not_not.1 fun h => hj (fndB_no h)
   exact List.all_eq_true.1 hown j hm
theorem dcn1 {ns b own : List Nat} {bs : List (List Nat × List Nat)} {l : List Oper} {K : St → Prop} {c : Call} {fo : Operand} {f : FuncId} {first cap : List Cell} {pf : List Prop} {xs : List Av} {bor bor' : List Blk} {news : List Blk} {res : Av} {nt dn : Nat} (ks : List Nat) (hn : E.n = nt) (hF : Ct P f xs bor res bor' news)
   (hk : DrawU P E ops ns bs l ((afterCall σ ks (some dn) bor' news).put (some dn) (res.ren (crho ks (some dn) news.length))) K) (hop : o.op = .call c := by exact rfl) (hg : o.guard = none := by exact rfl) (hd : o.dst = some dn := by exact rfl) (hE0 : dstOk nt o.dst = true := by exact rfl)
   (hcv : c.callee = .value fo := by exact rfl) (hfo : ox ⟨σ.tm, fgt b σ.hp⟩ fo = (pf, .c (.fn (.func f) first cap)) := by exact rfl)
   (h1 : first.map Av.c ++ (oxs ⟨σ.tm, fgt b σ.hp⟩ c.args.toList).2 ++ cap.map Av.c = xs.map (Av.ren (crho ks (some dn) news.length)) := by exact rfl)
   (h2 : AllP ((ordL 0 bor).map fun p => (St.mk σ.tm (fgt b σ.hp)).hp (ks.getD p.1 0) = p.2.ren (crho ks (some dn) news.length)) := by first | trivial | exact rfl | exact ⟨rfl, rfl⟩ | exact ⟨rfl, rfl, rfl⟩)
   (h3 : AllP ((ordL 0 bor).map fun p => p.2 ≠ .gone) := by first | trivial | (simp [ordL]; done) | fail)
   (h4 : (xs.all (Av.ok ks.length) && bor.all (Blk.ok ks.length) && res.ok (ks.length + news.length) && bor'.all (Blk.ok (ks.length + news.length)) && news.all (Blk.ok (ks.length + news.length)) && Nat.beq ks.length bor.length && decide (ks ++ newKeys (some dn) news.length).Nodup) = true := by exact rfl)
   (hp : AllP (pf ++ (oxs ⟨σ.tm, fgt b σ.hp⟩ c.args.toList).1) := by exact vcs) (hlen : ks.length = bor'.length := by exact rfl) (hns : news.length = 0 ∨ (news.length = 1 ∧ memB (nk (some dn) 0) ns = true) := by first | exact .inl rfl | exact .inr ⟨rfl, rfl⟩) (hown : (ks ++ newKeys (some dn) news.length).all (fun k => memB k own) = true := by exact rfl) : DrawU P E ops ns ((b, own) :: bs) (o :: l) σ K :=
 DU_cn ks hn hF hop hg hd hE0 hcv hfo ⟨h1, h2, h3, h4⟩ hp hlen hns hown hk
theorem du3E {Q : Exit → Act → World → Prop} {id : Nat} {l : List Oper} {bs : List (List Nat × List Nat)} (ns : List Nat) (ws : List (Nat × Nat)) (h : DrawU P E l.toArray ns bs l (σ.kills ns) (fun τ => WL P E l.toArray Q [] τ)) (hm : P.follows .mixedOrders = true := by kernel_rfl)
   (hbs : forceB (badsU l.toArray ws 0 l) some = some bs := by exact rfl) (hB : drawU l.toArray l ns ws = true := by kernel_rfl) (h64 : ns.all (Nat.ble 64) = true := by exact rfl) : W P E (.region id l.toArray true) Q σ := W_drawU ns ws hm hB hbs h64 h
end
end Go.Sx

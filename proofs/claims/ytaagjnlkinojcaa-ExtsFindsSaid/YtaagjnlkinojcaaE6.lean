/-
  Chapter 17: extensions dropped. The conditions: rows of at most a million elements.
-/
import Derived.Test.YtaagjnlkinojcaaE3
namespace Go.Proofs.Ytaagjnlkinojcaa
set_option linter.unusedSimpArgs false
set_option linter.unusedVariables false
open Go.Sx
set_option maxRecDepth 10000
theorem ext_get {α : Type} [Inhabited α] {l m : List α} (h : l.length = m.length) (h2 : ∀ j, j < l.length → l.getD j default = m.getD j default) : l = m := by
 apply List.ext_getElem h
 intro i h3 h4
 have := h2 i h3
 simpa [List.getD_eq_getElem?_getD, List.getElem?_eq_getElem h3, List.getElem?_eq_getElem h4] using this
set_option maxHeartbeats 16000000 in
theorem like_ok (l m : List ExT) (hl : l.length ≤ 1000000) (hm : m.length ≤ 1000000) (h : ∀ e ∈ l, okE e) (h' : ∀ e ∈ m, okE e) : Ct Try.prog 9 [exR l, exR m] [] (lv (.bool (decide (l = m)))) [] [] := by
 obtain ⟨B, hB⟩ : ∃ B, decide (l = m) = B := ⟨_, rfl⟩
 rw [hB]
 have hlm : (l.map exL).length = l.length := List.length_map ..
 have hmm : (m.map exL).length = m.length := List.length_map ..
 by_cases hne : l.length = m.length
 · refine Ct_intro Try.func9 rfl rfl rfl rfl rfl (fun E hn hb => ?_)
   repeat refine nx ?_
   refine W_weaken (St.le_of (l := [(0, exR l), (1, exR m), (5, lv (.int .i64 ((0 : Nat) : Int)))]) (h := []) (by refine ⟨?_, ?_⟩ <;> (repeat' (first | exact trivial | exact rfl | refine ⟨?_, ?_⟩)) <;> first | exact rfl | (simp; done) | skip)) ?_
   refine W_loop (ι := {i : Nat // i ≤ l.length ∧ ∀ j, j < i → l.getD j default = m.getD j default}) (fun i => St.of [(0, exR l), (1, exR m), (5, lv (.int .i64 (i.1 : Int)))] []) (fun i => l.length - i.1) (fun i => ?_) ⟨0, by omega, fun j h => by omega⟩
   obtain ⟨i, hi, hj⟩ := i
   dsimp only
   by_cases hi2 : i < l.length
   · have o1 := okE_get h i hi2
     have o2 := okE_get h' i (by omega)
     have c1 := refSame_ok (l.getD i default).1 (m.getD i default).1 o1.1 o2.1
     have c2 := same_ok (l.getD i default).2.2 (m.getD i default).2.2 o1.2 o2.2
     have hq : l.getD (i : Int).toNat default = l.getD i default := rfl
     have hr : m.getD (i : Int).toNat default = m.getD i default := rfl
     by_cases hxy : l.getD i default = m.getD i default
     · have hj2 : ∀ j, j < i + 1 → l.getD j default = m.getD j default := fun j h => by
         by_cases h3 : j = i
         · subst h3; exact hxy
         · exact hj j (by omega)
       rw [hxy] at hq c1 c2
       rw [decide_eq_true rfl] at c1 c2
       clear hxy
       generalize m.getD i default = y at *
       obtain ⟨yo, yc, yv⟩ := y
       dsimp only at c1 c2
       cases yc <;>
       · repeat (first | refine nx ?_ | rw [hq] | rw [hr])
         refine N_round ⟨i + 1, by omega, hj2⟩ (by dsimp only; omega) (St.le_of ⟨⟨rfl, rfl, rfl⟩, trivial⟩)
     · have hBf : B = false := by
         rw [← hB]
         exact decide_eq_false fun e => hxy (by rw [e])
       subst hBf
       generalize l.getD i default = x at *
       generalize m.getD i default = y at *
       obtain ⟨xo, xc, xv⟩ := x
       obtain ⟨yo, yc, yv⟩ := y
       dsimp only at c1 c2
       by_cases e1 : xo = yo
       · rw [decide_eq_true e1] at c1
         by_cases e2 : xc = yc
         · have e3 : ¬ xv = yv := fun e3 => hxy (by rw [e1, e2, e3])
           rw [decide_eq_false e3] at c2
           subst e2
           cases xc <;>
           · repeat (first | refine nx ?_ | rw [hq] | rw [hr])
             exact rt1 []
         · generalize decide (xv = yv) = b3 at *
           cases xc <;> cases yc <;> first | exact absurd rfl e2 | skip
           all_goals
             repeat (first | refine nx ?_ | rw [hq] | rw [hr])
             exact rt1 []
       · rw [decide_eq_false e1] at c1
         generalize decide (xv = yv) = b3 at *
         repeat (first | refine nx ?_ | rw [hq] | rw [hr])
         exact rt1 []
   · obtain rfl : i = l.length := by omega
     have hBt : B = true := by
       rw [← hB]
       exact decide_eq_true (ext_get hne hj)
     subst hBt
     repeat refine nx ?_
     exact rt1 []
 · have hBf : B = false := by
     rw [← hB]
     exact decide_eq_false fun e => hne (by rw [e])
   subst hBf
   refine Ct_intro Try.func9 rfl rfl rfl rfl rfl (fun E hn hb => ?_)
   repeat refine nx ?_
   exact rt1 []
abbrev kR (k : List (List Int)) : Av := .c (.lf (.recs 1 (k.map fun b => [Leaf.ints .i64 b])))
theorem idxk_ok (k : List (List Int)) (e : ExT) (hl : k.length ≤ 1000000) (h : okE e) (hk : ∀ b ∈ k, b.length ≤ 1000000) : Ct Try.prog 53 [kR k, .c (.bnd (.func 30) (exL e))] [] (lv (.int .i64 (plG (fun b => decide (e.1 = b)) k))) [] [] := by
 refine Ct_intro Try.func53 rfl rfl rfl rfl rfl (fun E hn hb => ?_)
 repeat refine nx ?_
 rw [List.length_map]
 refine W_weaken (St.le_of (l := [(0, kR k), (1, .c (.bnd (.func 30) (exL e))), (7, lv (.int .i64 (k.length : Int))), (8, lv (.int .i64 ((0 : Nat) : Int)))]) (h := []) (by refine ⟨?_, ?_⟩ <;> (repeat' (first | exact trivial | exact rfl | refine ⟨?_, ?_⟩)) <;> first | exact rfl | (simp; done) | skip)) ?_
 refine W_loop (ι := {i : Nat // i ≤ k.length ∧ ∀ j, j < i → ¬ (fun b => decide (e.1 = b)) (k.getD j default) = true}) (fun i => St.of [(0, kR k), (1, .c (.bnd (.func 30) (exL e))), (7, lv (.int .i64 (k.length : Int))), (8, lv (.int .i64 (i.1 : Int)))] []) (fun i => k.length - i.1) (fun i => ?_) ⟨0, by omega, fun j h => by omega⟩
 obtain ⟨i, hi, hj⟩ := i
 dsimp only
 by_cases hi2 : i < k.length
 · have hc := is_ok e (k.getD i default) h (hk _ (get_mem hi2))
   have hq : k.getD (i : Int).toNat [] = k.getD i default := rfl
   by_cases h2 : e.1 = k.getD i default
   · have hpl := plG_at (p := fun b => decide (e.1 = b)) hi2 hj (decide_eq_true h2)
     rw [hpl]
     rw [decide_eq_true h2] at hc
     clear h2
     generalize k.getD i default = x at *
     repeat (first | refine nx ?_ | rw [hq] | refine cbn1 hn ?_)
     exact rt1 []
   · have hj2 : ∀ j, j < i + 1 → ¬ (fun b => decide (e.1 = b)) (k.getD j default) = true := fun j h => by
       by_cases h3 : j = i
       · subst h3; simpa using h2
       · exact hj j (by omega)
     rw [decide_eq_false h2] at hc
     clear h2
     generalize k.getD i default = x at *
     repeat (first | refine nx ?_ | rw [hq] | refine cbn1 hn ?_)
     refine N_round ⟨i + 1, by omega, hj2⟩ (by dsimp only; omega) (St.le_of ⟨⟨rfl, rfl, rfl, rfl⟩, trivial⟩)
 · obtain rfl : i = k.length := by omega
   rw [plG_none hj]
   repeat refine nx ?_
   exact rt1 []
theorem cont_ok (k : List (List Int)) (e : ExT) (hl : k.length ≤ 1000000) (h : okE e) (hk : ∀ b ∈ k, b.length ≤ 1000000) : Ct Try.prog 29 [kR k, .c (.bnd (.func 30) (exL e))] [] (lv (.bool (k.any fun b => decide (e.1 = b)))) [] [] := by
 have h1 := idxk_ok k e hl h hk
 rw [← plG_any]
 refine Ct_intro Try.func29 rfl rfl rfl rfl rfl (fun E hn hb => ?_)
 repeat refine nx ?_
 exact rt1 []

set_option maxHeartbeats 4000000 in
theorem copies_own (l : List ExT) (hl : l.length ≤ 1000000) (h : ∀ e ∈ l, okE e) : Ct Try.prog 32 [exR l] [] (.c (.own 0 3 0 l.length)) [] [.row (.recs 3 (l.map exL))] := by
 refine Ct_intro Try.func32 rfl rfl rfl rfl rfl (fun E hn hb => ?_)
 repeat refine nx ?_
 rw [List.length_map]
 refine W_own_nil 3 900 3 (.recs 3 []) rfl rfl (.inr (.inr ⟨_, rfl⟩)) ?_
 refine W_weaken (St.le_of (l := [(3, .c (.own 900 3 0 0)), (6, exR l), (7, lv (.int .i64 (l.length : Int))), (8, lv (.int .i64 ((0 : Nat) : Int)))]) (h := [(900, .row (.recs 3 []))]) (by refine ⟨?_, ?_⟩ <;> (repeat' (first | exact trivial | exact rfl | refine ⟨?_, ?_⟩)) <;> first | exact rfl | (simp; done) | skip)) ?_
 refine W_loop (ι := {i : Nat // i ≤ l.length}) (fun i => St.of [(3, .c (.own 900 3 0 (((l.take i.1).map id).map exL).length)), (6, exR l), (7, lv (.int .i64 (l.length : Int))), (8, lv (.int .i64 (i.1 : Int)))] [(900, .row (.recs 3 (((l.take i.1).map id).map exL)))]) (fun i => l.length - i.1) (fun i => ?_) ⟨0, by omega⟩
 obtain ⟨i, hi⟩ := i
 dsimp only
 by_cases hi2 : i < l.length
 · have hnx := take_next id l i hi2
   have hq : l.getD (i : Int).toNat default = l.getD i default := rfl
   have hal : ((l.take i).map id).length ≤ 1000000 := by simp; omega
   have h1 := copied_ok (l.getD i default) (okE_get h i hi2)
   generalize hacc : (l.take i).map id = acc at *
   rw [id] at hnx
   generalize l.getD i default = x at *
   repeat (first | refine nx ?_ | rw [hq])
   refine N_round ⟨i + 1, by omega⟩ (by dsimp only; omega) (St.le_of ⟨⟨?_, rfl, rfl, rfl⟩, ?_⟩)
   · dsimp only; rw [hnx, List.map_append]; rfl
   · dsimp only; rw [hnx, List.map_append]; rfl
 · obtain rfl : i = l.length := by omega
   rw [List.take_length, List.map_id]
   repeat refine nx ?_
   rw [List.length_map]
   exact rt1 [900]
def unkE (l : List ExT) (k : List (List Int)) : List ExT := l.filter fun e => e.2.1 && !(k.any fun b => decide (e.1 = b))
theorem filter_next {α : Type} [Inhabited α] (p : α → Bool) (l : List α) (i : Nat) (h : i < l.length) : (l.take (i + 1)).filter p = (l.take i).filter p ++ (if p (l.getD i default) = true then [l.getD i default] else []) := by
 rw [List.take_add_one, List.filter_append, List.getD_eq_getElem?_getD, List.getElem?_eq_getElem h]
 simp only [Option.toList_some, Option.getD_some, List.filter_cons, List.filter_nil]
theorem filter_len {α : Type} (p : α → Bool) (l : List α) (i : Nat) : ((l.take i).filter p).length ≤ l.length := by
 have h1 := List.length_filter_le p (l.take i)
 simp at h1
 omega
set_option maxHeartbeats 8000000 in
theorem unknown_ok (l : List ExT) (k : List (List Int)) (hl : l.length ≤ 1000000) (h : ∀ e ∈ l, okE e) (hk : k.length ≤ 1000000) (hkk : ∀ b ∈ k, b.length ≤ 1000000) : Ct Try.prog 13 [exR l, kR k] [] (exR (unkE l k)) [] [] := by
 refine Ct_intro Try.func13 rfl rfl rfl rfl rfl (fun E hn hb => ?_)
 repeat refine nx ?_
 rw [List.length_map]
 refine W_own_nil 5 900 3 (.recs 3 []) rfl rfl (.inr (.inr ⟨_, rfl⟩)) ?_
 refine W_weaken (St.le_of (l := [(1, kR k), (5, .c (.own 900 3 0 0)), (8, exR l), (9, lv (.int .i64 (l.length : Int))), (10, lv (.int .i64 ((0 : Nat) : Int)))]) (h := [(900, .row (.recs 3 []))]) (by refine ⟨?_, ?_⟩ <;> (repeat' (first | exact trivial | exact rfl | refine ⟨?_, ?_⟩)) <;> first | exact rfl | (simp; done) | skip)) ?_
 refine W_loop (ι := {i : Nat // i ≤ l.length}) (fun i => St.of [(1, kR k), (5, .c (.own 900 3 0 ((unkE (l.take i.1) k).map exL).length)), (8, exR l), (9, lv (.int .i64 (l.length : Int))), (10, lv (.int .i64 (i.1 : Int)))] [(900, .row (.recs 3 ((unkE (l.take i.1) k).map exL)))]) (fun i => l.length - i.1) (fun i => ?_) ⟨0, by omega⟩
 obtain ⟨i, hi⟩ := i
 dsimp only
 by_cases hi2 : i < l.length
 · have hnx := filter_next (fun e : ExT => e.2.1 && !(k.any fun b => decide (e.1 = b))) l i hi2
   have hq : l.getD (i : Int).toNat default = l.getD i default := rfl
   have hal := filter_len (fun e : ExT => e.2.1 && !(k.any fun b => decide (e.1 = b))) l i
   have hok := okE_get h i hi2
   have h1 := copied_ok (l.getD i default) hok
   have h2 := cont_ok k (l.getD i default) hk hok hkk
   change unkE (l.take (i + 1)) k = unkE (l.take i) k ++ _ at hnx
   change (unkE (l.take i) k).length ≤ _ at hal
   generalize unkE (l.take i) k = acc at *
   generalize l.getD i default = x at *
   obtain ⟨o, c, v⟩ := x
   dsimp only at h2 hnx
   generalize (k.any fun b => decide (o = b)) = b at *
   cases c with
   | false =>
     rw [if_neg (by simp), List.append_nil] at hnx
     repeat (first | refine nx ?_ | rw [hq] | refine wgF (lv (.bool false)) hn ?_)
     refine N_round ⟨i + 1, by omega⟩ (by dsimp only; omega) (St.le_of ⟨⟨rfl, ?_, rfl, rfl, rfl⟩, ?_⟩)
     · dsimp only; rw [hnx]; rfl
     · dsimp only; rw [hnx]; rfl
   | true =>
     cases b with
     | true =>
       rw [if_neg (by simp), List.append_nil] at hnx
       repeat (first | refine nx ?_ | rw [hq] | refine WL_gT rfl rfl ?_ | refine bn1 (exL (o, true, v)) hn ?_)
       refine N_round ⟨i + 1, by omega⟩ (by dsimp only; omega) (St.le_of ⟨⟨rfl, ?_, rfl, rfl, rfl⟩, ?_⟩)
       · dsimp only; rw [hnx]; rfl
       · dsimp only; rw [hnx]; rfl
     | false =>
       rw [if_pos (by rfl)] at hnx
       repeat (first | refine nx ?_ | rw [hq] | refine WL_gT rfl rfl ?_ | refine bn1 (exL (o, true, v)) hn ?_)
       refine N_round ⟨i + 1, by omega⟩ (by dsimp only; omega) (St.le_of ⟨⟨rfl, ?_, rfl, rfl, rfl⟩, ?_⟩)
       · dsimp only; rw [hnx, List.map_append]; rfl
       · dsimp only; rw [hnx, List.map_append]; rfl
 · obtain rfl : i = l.length := by omega
   rw [List.take_length]
   repeat refine nx ?_
   refine frzN 4 ?_
   exact rt1 []
theorem drc_ok (e : ExT) (o : List Int) (h : okE e) (ho : o.length ≤ 1000000) : Ct Try.prog 33 [exA e, .c (.ptr 0 0)] [.cells [.lf (.ints .i64 o)]] (lv (.bool (decide (e.1 = o)))) [.cells [.lf (.ints .i64 o)]] [] := by
 have h1 := is_ok e o h ho
 refine Ct_intro Try.func33 rfl rfl rfl rfl rfl (fun E hn hb => ?_)
 repeat refine nx ?_
 exact rt1 []
set_option maxHeartbeats 4000000 in
theorem idxfO_ok (c : Nat) (l : List ExT) (o : List Int) (hl : l.length ≤ 1000000) (h : ∀ e ∈ l, okE e) (hcl : ∀ e, okE e → Ct Try.prog c [exA e, .c (.ptr 0 0)] [.cells [.lf (.ints .i64 o)]] (lv (.bool (decide (e.1 = o)))) [.cells [.lf (.ints .i64 o)]] []) :
   Ct Try.prog 40 [.c (.own 0 3 0 l.length), .c (.fn (.func c) [] [.ptr 1 0])] [.row (.recs 3 (l.map exL)), .cells [.lf (.ints .i64 o)]] (lv (.int .i64 (plE l o))) [.row (.recs 3 (l.map exL)), .cells [.lf (.ints .i64 o)]] [] := by
 refine Ct_intro Try.func40 rfl rfl rfl rfl rfl (fun E hn hb => ?_)
 repeat refine nx ?_
 refine W_weaken (St.le_of (l := [(0, .c (.own 0 3 0 l.length)), (1, .c (.fn (.func c) [] [.ptr 1 0])), (7, lv (.int .i64 (l.length : Int))), (8, lv (.int .i64 ((0 : Nat) : Int)))]) (h := [(0, .row (.recs 3 (l.map exL))), (1, .cells [.lf (.ints .i64 o)])]) (by refine ⟨?_, ?_⟩ <;> (repeat' (first | exact trivial | exact rfl | refine ⟨?_, ?_⟩)) <;> first | exact rfl | (simp; done) | skip)) ?_
 refine W_loop (ι := {i : Nat // i ≤ l.length ∧ ∀ j, j < i → ¬ (l.getD j default).1 = o}) (fun i => St.of [(0, .c (.own 0 3 0 l.length)), (1, .c (.fn (.func c) [] [.ptr 1 0])), (7, lv (.int .i64 (l.length : Int))), (8, lv (.int .i64 (i.1 : Int)))] [(0, .row (.recs 3 (l.map exL))), (1, .cells [.lf (.ints .i64 o)])]) (fun i => l.length - i.1) (fun i => ?_) ⟨0, by omega, fun j h => by omega⟩
 obtain ⟨i, hi, hj⟩ := i
 dsimp only
 by_cases hi2 : i < l.length
 · have hok := okE_get h i hi2
   have hc := hcl (l.getD i default) hok
   have hq : l.getD (i : Int).toNat default = l.getD i default := rfl
   by_cases h2 : (l.getD i default).1 = o
   · have hpl := plE_at hi2 hj h2
     rw [hpl]
     rw [decide_eq_true h2] at hc
     clear h2
     generalize l.getD i default = e at *
     repeat (first | refine nx ?_ | rw [hq] | refine le1 hn ?_)
     exact rt1 []
   · have hj2 : ∀ j, j < i + 1 → ¬ (l.getD j default).1 = o := fun j h => by
       by_cases h3 : j = i
       · subst h3; exact h2
       · exact hj j (by omega)
     rw [decide_eq_false h2] at hc
     clear h2
     generalize l.getD i default = e at *
     repeat (first | refine nx ?_ | rw [hq] | refine le1 hn ?_)
     refine N_round ⟨i + 1, by omega, hj2⟩ (by dsimp only; omega) (St.le_of ⟨⟨rfl, rfl, rfl, rfl⟩, ⟨rfl, rfl⟩⟩)
 · obtain rfl : i = l.length := by omega
   rw [plE_none hj]
   repeat refine nx ?_
   exact rt1 []
theorem indexO_ok (l : List ExT) (o : List Int) (hl : l.length ≤ 1000000) (h : ∀ e ∈ l, okE e) (ho : o.length ≤ 1000000) : Ct Try.prog 21 [.c (.own 0 3 0 l.length), I64 o] [.row (.recs 3 (l.map exL))] (lv (.int .i64 (plE l o))) [.row (.recs 3 (l.map exL))] [] := by
 have h1 := idxfO_ok 41 l o hl h (fun e he => isc_ok e o he ho)
 refine Ct_intro Try.func21 rfl rfl rfl rfl rfl (fun E hn hb => ?_)
 repeat refine nx ?_
 refine s_call [0, 67] h1 rfl rfl (by rw [hn]; rfl) rfl rfl (by trivial) ⟨rfl, ⟨rfl, rfl⟩, (by simp [ordL]), rfl⟩ ?_
 repeat refine nx ?_
 exact rt1 []
def setE (l : List ExT) (x : ExT) : List ExT := if plE l x.1 < 0 then l ++ [x] else l.set (plE l x.1).toNat x
theorem set_ok (l : List ExT) (x : ExT) (hl : l.length ≤ 1000000) (h : ∀ e ∈ l, okE e) (hx : okE x) : Ct Try.prog 15 [exR l, exA x] [] (exR (setE l x)) [] [] := by
 have h1 := copies_own l hl h
 have h2 := indexO_ok l x.1 hl h hx.1
 have h3 := copied_ok x hx
 have hlm : (l.map exL).length = l.length := List.length_map ..
 unfold setE
 rcases plG_range (fun e : ExT => decide (e.1 = x.1)) l with e1 | ⟨k, e1, e2⟩
 · change plE l x.1 = -1 at e1
   rw [e1] at h2 ⊢
   rw [if_pos (by omega)]
   show Ct _ 15 _ _ (.c (.lf (.recs 3 ((l ++ [x]).map exL)))) _ _
   rw [List.map_append]
   refine Ct_intro Try.func15 rfl rfl rfl rfl rfl (fun E hn hb => ?_)
   repeat refine nx ?_
   refine frzN 4 ?_
   exact rt1 []
 · change plE l x.1 = k at e1
   rw [e1] at h2 ⊢
   rw [if_neg (by omega)]
   refine Ct_intro Try.func15 rfl rfl rfl rfl rfl (fun E hn hb => ?_)
   repeat (first | refine nx ?_ | refine se1 x ?_)
   refine frzN 4 ?_
   exact rt1 []

def dropE (l : List ExT) (o : List Int) : List ExT := l.filter fun e => !decide (e.1 = o)
theorem filter_all {α : Type} [Inhabited α] {p : α → Bool} {l : List α} (h : ∀ j, j < l.length → p (l.getD j default) = true) : l.filter p = l := by
 rw [List.filter_eq_self]
 intro a ha
 obtain ⟨i, hi, rfl⟩ := List.mem_iff_getElem.1 ha
 have := h i hi
 rwa [List.getD_eq_getElem?_getD, List.getElem?_eq_getElem hi] at this
theorem plG_spec {α : Type} [Inhabited α] {p : α → Bool} : ∀ {l : List α} {k : Nat}, plG p l = k → k < l.length ∧ p (l.getD k default) = true ∧ ∀ j, j < k → ¬ p (l.getD j default) = true
 | [], k, h => by simp [plG] at h
 | e :: l, k, h => by
   rw [plG] at h
   by_cases h1 : p e = true
   · rw [if_pos h1] at h
     obtain rfl : k = 0 := by omega
     exact ⟨by simp, by simpa using h1, fun j hj => by omega⟩
   · rw [if_neg h1] at h
     by_cases h2 : plG p l < 0
     · rw [if_pos h2] at h; omega
     · rw [if_neg h2] at h
       obtain ⟨m, rfl⟩ : ∃ m, k = m + 1 := ⟨k - 1, by omega⟩
       obtain ⟨a, b, c⟩ := plG_spec (p := p) (l := l) (k := m) (by omega)
       refine ⟨by simp; omega, by simpa using b, fun j hj => ?_⟩
       cases j with
       | zero => simpa using h1
       | succ j => simpa using c j (by omega)
theorem plG_neg {α : Type} [Inhabited α] {p : α → Bool} : ∀ {l : List α}, plG p l = -1 → ∀ j, j < l.length → ¬ p (l.getD j default) = true
 | [], h, j, hj => by simp at hj
 | e :: l, h, j, hj => by
   rw [plG] at h
   by_cases h1 : p e = true
   · rw [if_pos h1] at h; omega
   · rw [if_neg h1] at h
     by_cases h2 : plG p l < 0
     · cases j with
       | zero => simpa using h1
       | succ j =>
         rcases plG_range p l with h3 | ⟨k, h3, _⟩
         · simpa using plG_neg h3 j (by simpa using hj)
         · omega
     · rw [if_neg h2] at h; omega
structure DelI (l : List ExT) (o : List Int) (cur : List ExT) (i j : Nat) : Prop where
 le : i ≤ j
 jl : j ≤ l.length
 len : cur.length = l.length
 front : cur.take i = dropE (l.take j) o
 back : cur.drop j = l.drop j
theorem DelI.get {l cur : List ExT} {o : List Int} {i j : Nat} (h : DelI l o cur i j) (hj : j < l.length) : cur.getD j default = l.getD j default := by
 have h1 := congrArg (fun x => x.getD 0 default) h.back
 simpa [List.getD_eq_getElem?_getD, List.getElem?_drop] using h1
theorem DelI.skip {l cur : List ExT} {o : List Int} {i j : Nat} (h : DelI l o cur i j) (hj : j < l.length) (he : (l.getD j default).1 = o) : DelI l o cur i (j + 1) := by
 refine ⟨by have := h.le; omega, by omega, h.len, ?_, ?_⟩
 · rw [h.front]
   have := filter_next (fun e : ExT => !decide (e.1 = o)) l j hj
   rw [if_neg (by rw [decide_eq_true he]; simp), List.append_nil] at this
   exact this.symm
 · have := congrArg (List.drop 1) h.back
   rwa [List.drop_drop, List.drop_drop] at this
theorem DelI.keep {l cur : List ExT} {o : List Int} {i j : Nat} (h : DelI l o cur i j) (hj : j < l.length) (he : ¬ (l.getD j default).1 = o) : DelI l o (cur.set i (l.getD j default)) (i + 1) (j + 1) := by
 have hle := h.le
 have hlen := h.len
 refine ⟨by omega, by omega, by simpa using hlen, ?_, ?_⟩
 · have := filter_next (fun e : ExT => !decide (e.1 = o)) l j hj
   rw [if_pos (by rw [decide_eq_false he]; rfl)] at this
   unfold dropE
   rw [this]
   have h2 := h.front
   unfold dropE at h2
   rw [← h2, List.take_add_one, List.getElem?_set_self (by omega), List.take_set_of_le (Nat.le_refl i)]
   rfl
 · rw [List.drop_set_of_lt (by omega)]
   have := congrArg (List.drop 1) h.back
   rwa [List.drop_drop, List.drop_drop] at this
set_option maxHeartbeats 8000000 in
theorem delf_ok (l : List ExT) (o : List Int) (hl : l.length ≤ 1000000) (h : ∀ e ∈ l, okE e) (ho : o.length ≤ 1000000) :
   Ct Try.prog 31 [.c (.own 0 3 0 l.length), .c (.fn (.func 33) [] [.ptr 1 0])] [.row (.recs 3 (l.map exL)), .cells [.lf (.ints .i64 o)]] (.c (.own 0 3 0 (dropE l o).length)) [.row (.recs 3 ((dropE l o).map exL)), .cells [.lf (.ints .i64 o)]] [] := by
 have h1 := idxfO_ok 33 l o hl h (fun e he => drc_ok e o he ho)
 rcases plG_range (fun e : ExT => decide (e.1 = o)) l with e1 | ⟨k, e1, e2⟩
 · have hd : dropE l o = l := filter_all fun j hj => by simpa using plG_neg e1 j hj
   change plE l o = -1 at e1
   rw [hd]
   rw [e1] at h1
   refine Ct_intro Try.func31 rfl rfl rfl rfl rfl (fun E hn hb => ?_)
   repeat refine nx ?_
   refine s_call [0, 1] h1 rfl rfl (by rw [hn]; rfl) rfl rfl (by trivial) ⟨rfl, ⟨rfl, rfl⟩, (by simp [ordL]), rfl⟩ ?_
   repeat refine nx ?_
   exact rt1 []
 · obtain ⟨_, s1, s2⟩ := plG_spec e1
   change plE l o = k at e1
   rw [e1] at h1
   have h0 : DelI l o l k (k + 1) := by
     refine ⟨by omega, by omega, rfl, ?_, rfl⟩
     have hq : dropE (l.take k) o = l.take k := filter_all fun j hj => by
       have hj2 : j < k := by simp at hj; omega
       have := s2 j hj2
       rw [List.getD_eq_getElem?_getD, List.getElem?_take_of_lt hj2, ← List.getD_eq_getElem?_getD]
       simpa using this
     have := filter_next (fun e : ExT => !decide (e.1 = o)) l k e2
     rw [if_neg (by simpa using s1), List.append_nil] at this
     exact hq.symm.trans this.symm
   refine Ct_intro Try.func31 rfl rfl rfl rfl rfl (fun E hn hb => ?_)
   repeat refine nx ?_
   refine s_call [0, 1] h1 rfl rfl (by rw [hn]; rfl) rfl rfl (by trivial) ⟨rfl, ⟨rfl, rfl⟩, (by simp [ordL]), rfl⟩ ?_
   repeat refine nx ?_
   refine W_weaken (St.le_of (l := [(0, .c (.own 0 3 0 l.length)), (1, .c (.fn (.func 33) [] [.ptr 1 0])), (5, lv (.int .i64 (k : Int))), (6, lv (.int .i64 ((k : Int) + 1)))]) (h := [(0, .row (.recs 3 (l.map exL))), (1, .cells [.lf (.ints .i64 o)])]) (by refine ⟨?_, ?_⟩ <;> (repeat' (first | exact trivial | exact rfl | refine ⟨?_, ?_⟩)) <;> first | exact rfl | (simp; done) | skip)) ?_
   refine W_loop (ι := {q : List ExT × Nat × Nat // DelI l o q.1 q.2.1 q.2.2}) (fun q => St.of [(0, .c (.own 0 3 0 l.length)), (1, .c (.fn (.func 33) [] [.ptr 1 0])), (5, lv (.int .i64 (q.1.2.1 : Int))), (6, lv (.int .i64 (q.1.2.2 : Int)))] [(0, .row (.recs 3 (q.1.1.map exL))), (1, .cells [.lf (.ints .i64 o)])]) (fun q => l.length - q.1.2.2) (fun q => ?_) ⟨(l, k, k + 1), h0⟩
   obtain ⟨⟨cur, i, j⟩, hq⟩ := q
   dsimp only at hq ⊢
   have hjl := hq.jl
   have hle := hq.le
   have hcl := hq.len
   by_cases hj : j < l.length
   · have hg := hq.get hj
     have hok := okE_get h j hj
     have hc := drc_ok (l.getD j default) o hok ho
     have hr : cur.getD (j : Int).toNat default = l.getD j default := hg
     by_cases h2 : (l.getD j default).1 = o
     · have hn2 := hq.skip hj h2
       rw [decide_eq_true h2] at hc
       clear h2
       generalize l.getD j default = e at *
       repeat (first | refine nx ?_ | rw [hr] | refine le1 hn ?_)
       refine N_round ⟨(cur, i, j + 1), hn2⟩ (by dsimp only; omega) (St.le_of ⟨⟨rfl, rfl, rfl, rfl⟩, ⟨rfl, rfl⟩⟩)
     · have hn2 := hq.keep hj h2
       rw [decide_eq_false h2] at hc
       clear h2
       generalize l.getD j default = e at *
       repeat (first | refine nx ?_ | rw [hr] | refine le1 hn ?_ | refine se1 e ?_)
       refine N_round ⟨(cur.set i e, i + 1, j + 1), hn2⟩ (by dsimp only; omega) (St.le_of ⟨⟨rfl, rfl, rfl, rfl⟩, ⟨rfl, rfl⟩⟩)
   · obtain rfl : j = l.length := by omega
     have hf := hq.front
     rw [List.take_length] at hf
     have hil : i = (dropE l o).length := by rw [← hf]; simp; omega
     repeat refine nx ?_
     rw [show 0 + (i : Int).toNat * 3 = i * 3 by omega]
     refine clr1 (i := i) ?_
     rw [← List.map_take, hf]
     repeat refine nx ?_
     rw [hil]
     exact rt1 []
theorem drop_ok (l : List ExT) (o : List Int) (hl : l.length ≤ 1000000) (h : ∀ e ∈ l, okE e) (ho : o.length ≤ 1000000) : Ct Try.prog 14 [exR l, I64 o] [] (exR (dropE l o)) [] [] := by
 have h1 := copies_own l hl h
 have h2 := delf_ok l o hl h ho
 refine Ct_intro Try.func14 rfl rfl rfl rfl rfl (fun E hn hb => ?_)
 repeat refine nx ?_
 refine s_call [70, 67] h2 rfl rfl (by rw [hn]; rfl) rfl rfl (by trivial) ⟨rfl, ⟨rfl, rfl⟩, (by simp [ordL]), rfl⟩ ?_
 repeat refine nx ?_
 refine frzN 4 ?_
 exact rt1 []
end Go.Proofs.Ytaagjnlkinojcaa

/-
  Chapter 17's law ExtsReads, walked: it returns true. The conditions: rows that a machine can hold; the package's table of powers of ten is laid.
-/
import Derived.Test.YtaagjnlkinojcaaGreatDoorM3
import Derived.Test.YtaagjnlkinojcaaGreatDoorA5
import Derived.Test.YtaagjnlkinojcaaGreatDoorC9
import Derived.Test.YtaagjnlkinojcaaGreatDoorC13
import Derived.Test.YtaagjnlkinojcaaGreatDoorSxQ
import Derived.Test.YtaagjnlkinojcaaGreatDoorO3
import Derived.Test.YtaagjnlkinojcaaGreatDoorO6
import Derived.Test.YtaagjnlkinojcaaGreatDoorO16
namespace Go.Proofs.YtaagjnlkinojcaaGreatDoor
set_option linter.unusedSimpArgs false
set_option linter.unusedVariables false
open Go.Sx
set_option maxRecDepth 10000
def rtrR (l : List Int) (p : Nat) : List Int × Nat × Int :=
 let r := openP l p (ofT 1)
 if r.2.2 = 0 then (if r.1 = [0] ∨ r.1 = [255] then (r.1, r.2.1, 0) else ([], p, 6)) else ([], p, r.2.2)
set_option maxHeartbeats 4000000 in
theorem rtruth_ok (l : List Int) (p : Nat) (hp : p ≤ l.length) (hl : l.length ≤ 1000000) (hw : WfB l) : Ct Tryz.prog 42 [B8 l, lv (.int .i64 (p : Int)), lv (.int .i64 1)] [] (.tup [B8 (rtrR l p).1, lv (.int .i64 ((rtrR l p).2.1 : Int)), lv (.int .i64 (rtrR l p).2.2)]) [] [] := by
 have hof := refoft_ok 1
 have hop := refopen_ok l p (ofT 1) hp hl hw
 have hmem := openP_mem l p (ofT 1)
 unfold rtrR
 generalize openP l p (ofT 1) = X at *
 obtain ⟨x, q, e⟩ := X
 dsimp only at *
 by_cases he : e = 0
 · subst he
   rw [if_pos rfl]
   match x, hop, hmem with
   | [], hop, hmem =>
     rw [if_neg (by simp)]
     refine Ct_intro Tryz.func42 rfl rfl rfl rfl rfl (fun E hn hb => ?_)
     repeat refine nx ?_
     exact rtU []
   | [u], hop, hmem =>
     by_cases h0 : u = 0
     · subst h0
       rw [if_pos (.inl rfl)]
       refine Ct_intro Tryz.func42 rfl rfl rfl rfl rfl (fun E hn hb => ?_)
       repeat refine nx ?_
       exact rt1 []
     · by_cases h1 : u = 255
       · subst h1
         rw [if_pos (.inr rfl)]
         refine Ct_intro Tryz.func42 rfl rfl rfl rfl rfl (fun E hn hb => ?_)
         repeat refine nx ?_
         exact rt1 []
       · rw [if_neg (by simp [h0, h1])]
         refine Ct_intro Tryz.func42 rfl rfl rfl rfl rfl (fun E hn hb => ?_)
         repeat refine nx ?_
         exact rtU []
   | u :: v :: t, hop, hmem =>
     rw [if_neg (by simp)]
     refine Ct_intro Tryz.func42 rfl rfl rfl rfl rfl (fun E hn hb => ?_)
     repeat refine nx ?_
     exact rtU []
 · rw [if_neg he]
   refine Ct_intro Tryz.func42 rfl rfl rfl rfl rfl (fun E hn hb => ?_)
   repeat refine nx ?_
   exact rtU []
theorem openP_err {l : List Int} {p : Nat} {t : TagP} (h : ¬ (openP l p t).2.2 = 0) : (openP l p t).1 = [] ∧ (openP l p t).2.1 = p := by
 unfold openP keepP at h ⊢
 by_cases h2 : (rawO l p t).2.2 = 0
 · rw [if_pos h2] at h; exact absurd h2 h
 · rw [if_neg h2]; exact ⟨rfl, rfl⟩
theorem rocts_ok (l : List Int) (p : Nat) (hp : p ≤ l.length) (hl : l.length ≤ 1000000) (hw : WfB l) : Ct Tryz.prog 42 [B8 l, lv (.int .i64 (p : Int)), lv (.int .i64 3)] [] (.tup [B8 (openP l p (ofT 4)).1, lv (.int .i64 ((openP l p (ofT 4)).2.1 : Int)), lv (.int .i64 (openP l p (ofT 4)).2.2)]) [] [] := by
 have hof := refoft_ok 4
 have hop := refopen_ok l p (ofT 4) hp hl hw
 have hke := @openP_err l p (ofT 4)
 generalize openP l p (ofT 4) = X at *
 obtain ⟨x, q, e⟩ := X
 dsimp only at *
 by_cases he : e = 0
 · subst he
   refine Ct_intro Tryz.func42 rfl rfl rfl rfl rfl (fun E hn hb => ?_)
   repeat refine nx ?_
   exact rt1 []
 · obtain ⟨rfl, rfl⟩ := hke he
   refine Ct_intro Tryz.func42 rfl rfl rfl rfl rfl (fun E hn hb => ?_)
   repeat refine nx ?_
   exact rtU []
theorem rtr_bool (l : List Int) (p : Nat) : boolR l p = (decide ((rtrR l p).1 = [255]), (rtrR l p).2.1, (rtrR l p).2.2) := by
 unfold boolR rtrR
 dsimp only
 split
 · split
   · rfl
   · rfl
 · rfl
theorem rtr_cases {l : List Int} {p : Nat} (h : (rtrR l p).2.2 = 0) : (rtrR l p).1 = [0] ∨ (rtrR l p).1 = [255] := by
 unfold rtrR at h ⊢
 dsimp only at h ⊢
 split at h
 · rename_i h1
   rw [if_pos h1]
   split at h
   · rename_i h2
     rw [if_pos h2]; exact h2
   · simp at h
 · rename_i h1
   exact absurd h h1
set_option maxHeartbeats 16000000 in
theorem rreadone_ok (l : List Int) (p : Nat) (hp : p ≤ l.length) (hl : l.length ≤ 1000000) (hw : WfB l) : Ct Tryz.prog 9 [B8 l, lv (.int .i64 (p : Int))] [] (.tup [exA (exR1 l p).1, lv (.int .i64 ((exR1 l p).2.1 : Int)), lv (.int .i64 (exR1 l p).2.2)]) [] [] := by
 have hof := refoft_ok 16
 have hop := refopen_ok l p (ofT 16) hp hl hw
 have hmem := openP_mem l p (ofT 16)
 unfold exR1 rawX
 generalize openP l p (ofT 16) = X at *
 obtain ⟨x, q, e⟩ := X
 dsimp only at *
 by_cases he : e = 0
 · subst he
   rw [if_pos rfl]
   have hwx : WfB x := fun y hy => hw y (hmem.2 y hy)
   have h1 := roread_ok x 0 (Nat.zero_le _) (by omega) hwx
   have h1l := oidR_le x 0 (Nat.zero_le _)
   generalize oidR x 0 = O at *
   obtain ⟨o, p1, f1⟩ := O
   dsimp only at *
   by_cases hf1 : f1 = 0
   · subst hf1
     rw [if_pos rfl]
     have h2 := refread_ok x p1 h1l.2 (by omega) hwx
     have h2l := critR_le x p1 h1l.2
     have h3 := rtruth_ok x p1 h1l.2 (by omega) hwx
     have h3c := @rtr_cases x p1
     have hof1 : Ct Tryz.prog 39 [lv (.int .i64 1)] [] (tagA (0, 1, false)) [] [] := refoft_ok 1
     have hcr : critR x p1 = if (decide ((readP x p1).2.2 = 0) && decide ((readP x p1).1.1 = ofT 1)) = true then (decide ((rtrR x p1).1 = [255]), (rtrR x p1).2.1, if (rtrR x p1).2.2 = 0 ∧ decide ((rtrR x p1).1 = [255]) = false then 6 else (rtrR x p1).2.2) else (false, p1, 0) := by
       unfold critR isH
       rw [rtr_bool]
     generalize critR x p1 = K at *
     generalize readP x p1 = R at *
     obtain ⟨⟨⟨t1, t2, t3⟩, n⟩, r, g⟩ := R
     generalize rtrR x p1 = B at *
     obtain ⟨y, p2, f2⟩ := B
     dsimp only at h2 h3 h3c hcr
     generalize hC : (decide (g = 0) && decide ((t1, t2, t3) = ofT 1)) = C at *
     cases C with
     | true =>
       simp only [Bool.and_eq_true, decide_eq_true_eq] at hC
       obtain ⟨rfl, ht⟩ := hC
       have ht : (t1, t2, t3) = ((0 : Int), (1 : Int), false) := ht
       simp only [Prod.mk.injEq] at ht
       obtain ⟨rfl, rfl, rfl⟩ := ht
       rw [if_pos rfl] at hcr
       by_cases hf2 : f2 = 0
       · subst hf2
         rcases h3c rfl with rfl | rfl
         · obtain rfl : K = (false, p2, 6) := hcr
           dsimp only
           rw [if_neg (by decide), keepP_err _ _ _ (by simp)]
           refine Ct_intro Tryz.func9 rfl rfl rfl rfl rfl (fun E hn hb => ?_)
           repeat refine nx ?_
           refine W_cond rfl (by simp) (fun hc => ?_) (fun hc => ?_)
           · repeat refine nx ?_
             refine rtU [] (hu := ?_)
             exact ⟨up_e0, .inl rfl, .inl rfl, trivial⟩
           · simp [eqCs, Cell.kill, Cell.kill1] at hc
         · obtain rfl : K = (true, p2, 0) := hcr
           dsimp only at h2l ⊢
           rw [if_pos rfl]
           have h4 := rocts_ok x p2 h2l.2 (by omega) hwx
           generalize openP x p2 (ofT 4) = V at *
           obtain ⟨v, p3, f3⟩ := V
           dsimp only at *
           by_cases hf3 : f3 = 0
           · subst hf3
             rw [if_pos rfl]
             by_cases hlt : p3 < x.length
             · rw [if_pos hlt, keepP_err _ _ _ (by simp)]
               refine Ct_intro Tryz.func9 rfl rfl rfl rfl rfl (fun E hn hb => ?_)
               repeat refine nx ?_
               refine W_cond rfl (by simp) (fun hc => ?_) (fun hc => ?_)
               · repeat refine nx ?_
                 refine rtU [] (hu := ?_)
                 exact ⟨up_e0, .inl rfl, .inl rfl, trivial⟩
               · simp [eqCs, Cell.kill, Cell.kill1] at hc
             · rw [if_neg hlt, keepP_ok _ _ _ rfl]
               refine Ct_intro Tryz.func9 rfl rfl rfl rfl rfl (fun E hn hb => ?_)
               repeat refine nx ?_
               refine W_cond rfl (by simp) (fun hc => ?_) (fun hc => ?_)
               · repeat refine nx ?_
                 exact rt1 []
               · simp [eqCs, Cell.kill, Cell.kill1] at hc
           · rw [if_neg hf3, keepP_err _ _ _ hf3]
             refine Ct_intro Tryz.func9 rfl rfl rfl rfl rfl (fun E hn hb => ?_)
             repeat refine nx ?_
             refine W_cond rfl (by simp) (fun hc => ?_) (fun hc => ?_)
             · repeat refine nx ?_
               refine rtU [] (hu := ?_)
               exact ⟨up_e0, .inl rfl, .inl rfl, trivial⟩
             · simp [eqCs, Cell.kill, Cell.kill1] at hc
       · obtain rfl : K = (decide (y = [255]), p2, f2) := by rw [hcr, if_neg fun h => hf2 h.1]
         dsimp only
         rw [if_neg hf2, keepP_err _ _ _ hf2]
         refine Ct_intro Tryz.func9 rfl rfl rfl rfl rfl (fun E hn hb => ?_)
         repeat refine nx ?_
         refine W_cond rfl (by simp) (fun hc => ?_) (fun hc => ?_)
         · repeat refine nx ?_
           refine rtU [] (hu := ?_)
           exact ⟨up_e0, .inl rfl, .inl rfl, trivial⟩
         · simp [eqCs, Cell.kill, Cell.kill1] at hc
     | false =>
       have ht : ¬ (g = 0 ∧ t1 = 0 ∧ t2 = 1 ∧ t3 = false) := by
         rintro ⟨rfl, rfl, rfl, rfl⟩
         exact absurd hC (by decide)
       obtain rfl : K = (false, p1, 0) := by rw [hcr, if_neg (by simp)]
       dsimp only at h2l ⊢
       rw [if_pos rfl]
       have h4 := rocts_ok x p1 h2l.2 (by omega) hwx
       generalize openP x p1 (ofT 4) = V at *
       obtain ⟨v, p3, f3⟩ := V
       dsimp only at *
       by_cases hf3 : f3 = 0
       · subst hf3
         rw [if_pos rfl]
         by_cases hlt : p3 < x.length
         · rw [if_pos hlt, keepP_err _ _ _ (by simp)]
           refine Ct_intro Tryz.func9 rfl rfl rfl rfl rfl (fun E hn hb => ?_)
           repeat refine nx ?_
           refine W_cond rfl (by simp) (fun hc => ?_) (fun hc => ?_)
           · exfalso
             apply ht
             simp [eqCs, Cell.kill, Cell.kill1] at hc
             simp [hc]
           · repeat refine nx ?_
             refine rtU [] (hu := ?_)
             exact ⟨up_e0, .inl rfl, .inl rfl, trivial⟩
         · rw [if_neg hlt, keepP_ok _ _ _ rfl]
           refine Ct_intro Tryz.func9 rfl rfl rfl rfl rfl (fun E hn hb => ?_)
           repeat refine nx ?_
           refine W_cond rfl (by simp) (fun hc => ?_) (fun hc => ?_)
           · exfalso
             apply ht
             simp [eqCs, Cell.kill, Cell.kill1] at hc
             simp [hc]
           · repeat refine nx ?_
             exact rt1 []
       · rw [if_neg hf3, keepP_err _ _ _ hf3]
         refine Ct_intro Tryz.func9 rfl rfl rfl rfl rfl (fun E hn hb => ?_)
         repeat refine nx ?_
         refine W_cond rfl (by simp) (fun hc => ?_) (fun hc => ?_)
         · exfalso
           apply ht
           simp [eqCs, Cell.kill, Cell.kill1] at hc
           simp [hc]
         · repeat refine nx ?_
           refine rtU [] (hu := ?_)
           exact ⟨up_e0, .inl rfl, .inl rfl, trivial⟩
   · rw [if_neg hf1, keepP_err _ _ _ hf1]
     refine Ct_intro Tryz.func9 rfl rfl rfl rfl rfl (fun E hn hb => ?_)
     repeat refine nx ?_
     refine rtU [] (hu := ?_)
     exact ⟨up_e0, .inl rfl, .inl rfl, trivial⟩
 · rw [if_neg he, keepP_err _ _ _ he]
   refine Ct_intro Tryz.func9 rfl rfl rfl rfl rfl (fun E hn hb => ?_)
   repeat refine nx ?_
   refine rtU [] (hu := ?_)
   exact ⟨up_e0, .inl rfl, .inl rfl, trivial⟩
end Go.Proofs.YtaagjnlkinojcaaGreatDoor

namespace Go.Sx
open Go
set_option linter.unusedVariables false
set_option linter.unusedSimpArgs false
section
variable {P : Program} {E : Env} {ops : Array Oper} {σ : St} {o : Oper} {α : Type} {f : α → List Leaf} {ns b own : List Nat} {bs : List (List Nat × List Nat)} {l : List Oper} {K : St → Prop}
theorem dlf1 {nt : Nat} {dd : Option Nat} {t : TypeId} {y : Operand} {p : List Prop} {j sz i k : Nat} {h : α → Leaf} {rs : List α} {z0 : α} (hn : E.n = nt) (hk : DrawU P E ops ns bs l (σ.put dd (.c (.lf (h (rs.getD i z0))))) K) (hop : o.op = .load t y := by exact rfl) (hg : o.guard = none := by exact rfl) (hdf : forceO o.dst some = some dd := by exact rfl) (hd : dstOk nt dd = true := by exact rfl) (ht : tagg P t = false := by exact rfl) (ht2 : (P.underlying t).isSome = true := by exact rfl)
   (hy : ox ⟨σ.tm, fgt b σ.hp⟩ y = (p, .c (.pel j sz i k)) := by exact rfl) (hb : fgt b σ.hp j = .row (.recs sz (rs.map f)) := by exact rfl) (hf : ∀ a, (f a)[k]? = some (h a) := by exact fun _ => rfl) (hz0 : Df z0 := by first | exact Df.nil | exact Df.dflt)
   (hp : AllP p := by exact vcs) (hlt : i < rs.length := by first | omega | (simp; done) | (simp; omega) | (simp at *; omega)) : DrawU P E ops ns ((b, own) :: bs) (o :: l) σ K :=
 DU_op hdf (by rw [hn]; exact hd) (ops_of (fun τ hl => opy_loadF (f := f) (h := h) (rs := rs) (z0 := z0) hop ht ht2 ((hl.ox y (by rw [hop]; simp [Op.operands])).trans hy) ((congrFun hl.hp j).trans hb) hf hp hlt) hg) hk
end
end Go.Sx

namespace Go.Proofs.YtaagjnlkinojcaaGreatDoor
set_option linter.unusedSimpArgs false
set_option linter.unusedVariables false
open Go.Sx
set_option maxRecDepth 10000
theorem hasO_none {acc : List ExT} {o : List Int} (h : ∀ j, j < acc.length → ¬ (acc.getD j default).1 = o) : ¬ hasO acc o = true := by
 unfold hasO
 rw [List.any_eq_true]
 rintro ⟨e, he, h2⟩
 obtain ⟨j, hj, rfl⟩ := List.mem_iff_getElem.1 he
 have := h j hj
 rw [List.getD_eq_getElem?_getD, List.getElem?_eq_getElem hj] at this
 exact this (by simpa using h2)
theorem hasO_at {acc : List ExT} {o : List Int} {k : Nat} (hk : k < acc.length) (h : (acc.getD k default).1 = o) : hasO acc o = true := by
 unfold hasO
 rw [List.any_eq_true]
 exact ⟨_, get_mem hk, by simpa using h⟩
set_option maxHeartbeats 16000000 in
theorem rread17_ok (l : List Int) (p : Nat) (hp : p ≤ l.length) (hl : l.length ≤ 1000000) (hw : WfB l) : Ct Tryz.prog 11 [B8 l, lv (.int .i64 (p : Int))] [] (.tup [exR (exsR l p).1, lv (.int .i64 ((exsR l p).2.1 : Int)), lv (.int .i64 (exsR l p).2.2)]) [] [] := by
 have hof := refoft_ok 16
 have hop := refopen_ok l p (ofT 16) hp hl hw
 have hmem := openP_mem l p (ofT 16)
 obtain ⟨Z, hZ⟩ : ∃ Z, exsR l p = Z := ⟨_, rfl⟩
 rw [hZ]
 unfold exsR at hZ
 generalize openP l p (ofT 16) = X at *
 obtain ⟨x, q, e⟩ := X
 dsimp only at *
 by_cases he : e = 0
 · subst he
   rw [if_pos rfl] at hZ
   have hwx : WfB x := fun y hy => hw y (hmem.2 y hy)
   unfold allP at hZ
   by_cases h0 : x = []
   · subst h0
     rw [if_pos rfl, if_neg (by simp)] at hZ
     subst hZ
     refine Ct_intro Tryz.func11 rfl rfl rfl rfl rfl (fun E hn hb => ?_)
     repeat refine nx ?_
     exact rtU []
   · rw [if_neg h0] at hZ
     have hpos : 0 < x.length := List.length_pos_iff.2 h0
     obtain ⟨R, hR⟩ : ∃ R, allX x (x.length + 1) 0 [] = R := ⟨_, rfl⟩
     rw [hR] at hZ
     refine Ct_intro Tryz.func11 rfl rfl rfl rfl rfl (fun E hn hb => ?_)
     repeat refine nx ?_
     refine W_own_nil 10 900 3 (.recs 3 []) rfl rfl (.inr (.inr ⟨_, rfl⟩)) ?_
     refine W_weaken (St.le_of (l := [(1, lv (.int .i64 (p : Int))), (7, B8 x), (8, lv (.int .i64 (q : Int))), (10, .c (.own 900 3 0 (([] : List ExT).map exL).length)), (11, lv (.int .i64 ((0 : Nat) : Int)))]) (h := [(900, .row (.recs 3 (([] : List ExT).map exL)))]) (by refine ⟨?_, ?_⟩ <;> (repeat' (first | exact trivial | exact rfl | refine ⟨?_, ?_⟩)) <;> first | exact rfl | (simp; done) | skip)) ?_
     refine W_loop (ι := {s : Nat × List ExT // s.1 ≤ x.length ∧ goodX s.2 ∧ s.2.length ≤ 64 ∧ (∀ e ∈ s.2, okE e) ∧ allX x (x.length + 1) s.1 s.2 = R}) (fun s => St.of [(1, lv (.int .i64 (p : Int))), (7, B8 x), (8, lv (.int .i64 (q : Int))), (10, .c (.own 900 3 0 (s.1.2.map exL).length)), (11, lv (.int .i64 (s.1.1 : Int)))] [(900, .row (.recs 3 (s.1.2.map exL)))]) (fun s => x.length - s.1.1) (fun s => ?_) ⟨(0, []), Nat.zero_le _, goodX_nil, Nat.zero_le _, fun e he => (by cases he), hR⟩
     obtain ⟨⟨pp, acc⟩, hpp, hg, h64, hok, hx⟩ := s
     dsimp only at hpp hg h64 hok hx ⊢
     have hml : (acc.map exL).length = acc.length := List.length_map ..
     unfold allX at hx
     by_cases hlt : pp < x.length
     · rw [if_pos hlt] at hx
       by_cases h6 : acc.length = 64
       · rw [if_pos h6] at hx
         subst hx
         rw [if_neg (by simp)] at hZ
         subst hZ
         repeat refine nx ?_
         exact rtU []
       · rw [if_neg h6] at hx
         have hr := rreadone_ok x pp hpp (by omega) hwx
         have hbk := @exR1_back x (exR1 x pp).1 pp (exR1 x pp).2.1 hwx hpp
         have hne := @exR1_err x pp
         generalize exR1 x pp = Y at *
         obtain ⟨y, q1, e1⟩ := Y
         dsimp only at hr hbk hx hne
         by_cases he1 : e1 = 0
         · subst he1
           rw [if_pos rfl] at hx
           obtain ⟨b1, b2, b3, b4, b5, b6⟩ := hbk rfl
           obtain ⟨o, c, v⟩ := y
           dsimp only at b1 hx
           repeat refine nx ?_
           refine W_weaken (St.le_of (l := [(1, lv (.int .i64 (p : Int))), (7, B8 x), (8, lv (.int .i64 (q : Int))), (10, .c (.own 900 3 0 (acc.map exL).length)), (12, .c (.ptr 76 0)), (13, lv (.int .i64 (q1 : Int))), (15, lv (.int .i64 ((0 : Nat) : Int)))]) (h := [(900, .row (.recs 3 (acc.map exL))), (76, .cells ((exL (o, c, v)).map Cell.lf))]) (by refine ⟨?_, ?_⟩ <;> (repeat' (first | exact trivial | exact rfl | refine ⟨?_, ?_⟩)) <;> first | exact rfl | (simp; done) | skip)) ?_
           refine W_loop (ι := {k : Nat // k ≤ acc.length ∧ ∀ j, j < k → ¬ (acc.getD j default).1 = o}) (fun k => St.of [(1, lv (.int .i64 (p : Int))), (7, B8 x), (8, lv (.int .i64 (q : Int))), (10, .c (.own 900 3 0 (acc.map exL).length)), (12, .c (.ptr 76 0)), (13, lv (.int .i64 (q1 : Int))), (15, lv (.int .i64 (k.1 : Int)))] [(900, .row (.recs 3 (acc.map exL))), (76, .cells ((exL (o, c, v)).map Cell.lf))]) (fun k => acc.length - k.1) (fun k => ?_) ⟨0, Nat.zero_le _, fun j h => by omega⟩
           obtain ⟨k, hk, hkj⟩ := k
           dsimp only
           by_cases hk2 : k < acc.length
           · have hoe := okE_get hok k hk2
             have hro := right_nums b1
             have hol : o.length ≤ 1000000 := by obtain ⟨_, _, t, rfl, _, _, _, _, ht, _⟩ := hro; simp; omega
             have hs := refSame_ok (acc.getD k default).1 o hoe.1 hol
             have hq : acc.getD (k : Int).toNat default = acc.getD k default := rfl
             have hq0 : acc.getD (0 + (k : Int).toNat) default = acc.getD k default := by rw [Nat.zero_add]; rfl
             by_cases heq : (acc.getD k default).1 = o
             · rw [if_pos (hasO_at hk2 heq)] at hx
               rw [decide_eq_true heq] at hs
               clear heq
               generalize acc.getD k default = z at *
               subst hx
               rw [if_neg (by simp)] at hZ
               subst hZ
               repeat (first | refine nx ?_ | rw [hq] | rw [hq0] | refine dlf1 hn ?_)
               exact rtU []
             · have hkj2 : ∀ j, j < k + 1 → ¬ (acc.getD j default).1 = o := fun j h => by
                 by_cases h3 : j = k
                 · subst h3; exact heq
                 · exact hkj j (by omega)
               rw [decide_eq_false heq] at hs
               clear heq
               generalize acc.getD k default = z at *
               repeat (first | refine nx ?_ | rw [hq] | rw [hq0] | refine dlf1 hn ?_)
               refine N_round ⟨k + 1, by omega, hkj2⟩ (by dsimp only; omega) (St.le_of ⟨⟨rfl, rfl, rfl, rfl, rfl, rfl, rfl⟩, ⟨rfl, rfl⟩⟩)
           · obtain rfl : k = acc.length := by omega
             have hno := hasO_none hkj
             rw [if_neg hno] at hx
             have hg2 := goodX_snoc (x := (o, c, v)) hg b1 hno
             rw [allX_fuel x hwx x.length (x.length + 1) q1 _ b6 (by omega) (by omega)] at hx
             have hok2 : ∀ e ∈ acc ++ [(o, c, v)], okE e := fun e he => by
               rcases List.mem_append.1 he with h1 | h1
               · exact hok e h1
               · rw [List.mem_singleton.1 h1]
                 obtain ⟨_, _, t, ho, _, _, _, _, ht, _⟩ := right_nums b1
                 exact ⟨by dsimp only at ho ⊢; rw [ho]; simp; omega, by dsimp only at b4 ⊢; omega⟩
             repeat refine nx ?_
             refine N_round ⟨(q1, acc ++ [(o, c, v)]), b6, hg2, by simp; omega, hok2, hx⟩ (by dsimp only; omega) (St.le_of ⟨⟨rfl, rfl, rfl, ?_, rfl⟩, ?_⟩)
             · dsimp only; rw [List.map_append]; rfl
             · dsimp only; rw [List.map_append]; rfl
         · rw [if_neg he1] at hx
           obtain ⟨rfl, rfl⟩ := hne he1
           subst hx
           dsimp only at hZ
           rw [if_neg he1] at hZ
           subst hZ
           repeat refine nx ?_
           exact rtU []
     · obtain rfl : pp = x.length := by omega
       rw [if_neg hlt] at hx
       subst hx
       rw [if_pos rfl] at hZ
       subst hZ
       repeat refine nx ?_
       rw [hml]
       refine frzN 4 ?_
       exact rt1 []
 · rw [if_neg he] at hZ
   subst hZ
   refine Ct_intro Tryz.func11 rfl rfl rfl rfl rfl (fun E hn hb => ?_)
   repeat refine nx ?_
   exact rtU []

theorem goodX_okE {l : List ExT} {N : Nat} (hN : N ≤ 1000000) (h : goodX l) (h2 : ∀ e ∈ l, WfB e.2.2 ∧ e.2.2.length ≤ N) : ∀ e ∈ l, okE e := fun e he => by
 obtain ⟨_, _, t, ho, _, _, _, _, ht, _⟩ := right_nums (h.1 e he)
 have := (h2 e he).2
 exact ⟨by rw [ho]; simp; omega, by omega⟩
theorem exsR_back {l : List Int} {p : Nat} (hw : WfB l) (hp : p ≤ l.length) (h : (exsR l p).2.2 = 0) :
   goodX (exsR l p).1 ∧ (exsR l p).1.length ≤ 64 ∧ 0 < (exsR l p).1.length ∧ (∀ e ∈ (exsR l p).1, WfB e.2.2 ∧ e.2.2.length ≤ l.length) ∧ l.drop p = wrapL (ofT 16) ((exsR l p).1.flatMap wrX) ++ l.drop (exsR l p).2.1 := by
 unfold exsR at h ⊢
 have hm := openP_mem l p (ofT 16)
 generalize hO : openP l p (ofT 16) = O at *
 obtain ⟨x, q, e⟩ := O
 dsimp only at *
 by_cases he : e = 0
 · subst he
   rw [if_pos rfl] at h ⊢
   have hwx : WfB x := fun y hy => hw y (hm.2 y hy)
   unfold allP at h ⊢
   by_cases h0 : x = []
   · rw [if_pos h0] at h; simp at h
   · rw [if_neg h0] at h ⊢
     have hpos : 0 < x.length := List.length_pos_iff.2 h0
     generalize hA : allX x (x.length + 1) 0 [] = A at *
     obtain ⟨r, z, f⟩ := A
     dsimp only at *
     by_cases hf : f = 0
     · subst hf
       rw [if_pos rfl]
       obtain ⟨c1, c2, c3, c4, c5, c6, c7⟩ := allX_back hwx _ _ _ _ _ (Nat.zero_le _) (by omega) goodX_nil (Nat.zero_le _) (fun e he => (by cases he)) hA
       refine ⟨c1, c2, c6 hpos, fun e he => ⟨(c4 e he).1, by have := (c4 e he).2; omega⟩, ?_⟩
       have := (open_back hw hO).2
       rw [this]
       congr 2
     · rw [if_neg hf] at h
       exact absurd h hf
 · rw [if_neg he] at h
   exact absurd h he
theorem exsR_err {l : List Int} {p : Nat} (h : ¬ (exsR l p).2.2 = 0) : (exsR l p).1 = [] ∧ (exsR l p).2.1 = p := by
 rw [exsR_keep] at h ⊢
 by_cases h0 : (rawXs l p).2.2 = 0
 · rw [keepP_ok _ _ _ h0] at h; exact absurd h0 h
 · rw [keepP_err _ _ _ h0]; exact ⟨rfl, rfl⟩
theorem exsR_okE (l : List Int) (p : Nat) (hp : p ≤ l.length) (hl : l.length ≤ 1000000) (hw : WfB l) : (∀ e ∈ (exsR l p).1, okE e) ∧ (exsR l p).1.length ≤ 64 := by
 by_cases h : (exsR l p).2.2 = 0
 · obtain ⟨b1, b2, _, b4, _⟩ := exsR_back hw hp h
   exact ⟨goodX_okE hl b1 b4, b2⟩
 · rw [(exsR_err h).1]
   exact ⟨fun e he => (by cases he), by simp⟩
theorem like_self {m : List ExT} (h : ∀ e ∈ m, okE e) (hl : m.length ≤ 1000000) : Ct Tryz.prog 13 [exR m, exR m] [] (lv (.bool true)) [] [] := by
 have := like_ok m m hl hl h h
 rwa [decide_eq_true rfl] at this
end Go.Proofs.YtaagjnlkinojcaaGreatDoor

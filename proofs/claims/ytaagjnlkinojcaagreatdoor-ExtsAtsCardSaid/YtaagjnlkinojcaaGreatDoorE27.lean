/-
  Chapter 17's law ExtsAts, walked: it returns true. The conditions: rows that a machine can hold; the package's table of powers of ten is laid.
-/
import Derived.Test.YtaagjnlkinojcaaGreatDoorE23
namespace Go.Proofs.YtaagjnlkinojcaaGreatDoor
set_option linter.unusedSimpArgs false
set_option linter.unusedVariables false
open Go.Sx
set_option maxRecDepth 10000
theorem sameT (a : List Int) (h : a.length ≤ 1000000) : Ct Tryz.prog 22 [B8 a, B8 a] [] (lv (.bool true)) [] [] := by
 have := same_ok a a h h
 rwa [decide_eq_true rfl] at this
set_option maxHeartbeats 32000000 in
theorem writes17_ok (l : List ExT) (hl : l.length ≤ 9223372036854775807)
   (hw : ∀ e ∈ l, (e.1.length ≤ 9223372036854775807 ∧ ∀ n ∈ e.1, (Go.Lit.int .i64 n).wf = true) ∧ True ∧ (e.2.2.length ≤ 9223372036854775807 ∧ WfB e.2.2)) :
   Ct Tryz.prog 4 [exR l] [] (lv (.bool true)) [] [] := by
 have hkn := known17_ok
 have hfe := few17_ok l hl (fun e he => ⟨(hw e he).1.1, (hw e he).2.2.1⟩)
 obtain ⟨m1, m2, m3⟩ := fewE_ok l hw
 generalize fewE l = m at *
 have hml : (m.map exL).length = m.length := List.length_map ..
 have ham := all17_ok m (by omega)
 have hx := xright_ok m (by omega) m2
 have hr := rright17_ok m (by omega) m2
 have hv : ∀ e ∈ m, e.2.2.length ≤ 100000 := fun e he => by have := (m3 e he).2.1; omega
 have hfwd := fun h hT => exsR_fwd [] [] (l := m) (fun e he => (m3 e he).2.2) h hv hT (fmX_wf fun e he => (m3 e he).2.2)
 have hT : rgtX m = true → (m.flatMap wrX).length ≤ 900000 := fun h => by
   have := fmX_len (N := 200) (l := m) fun e he => ⟨(rgt_right h).1.1 e he, (m3 e he).2.1⟩
   have := Nat.mul_le_mul_right (200 + 1020) m1
   omega
 obtain ⟨b, e, hwr, hwt, hwf⟩ : ∃ b e, Ct Tryz.prog 17 [exR m] [] (.tup [B8 b, lv (.int .i64 e)]) [] [] ∧ (rgtX m = true → b = wrXs m ∧ e = 0) ∧ (rgtX m = false → b = [] ∧ e = 1) := by
   cases h : rgtX m with
   | false => exact ⟨_, _, xwrite_err m (by omega) m2 h, fun h => (by cases h), fun _ => ⟨rfl, rfl⟩⟩
   | true => exact ⟨_, _, xwrite_ok m (by omega) m2 h hv (hT h), fun _ => ⟨rfl, rfl⟩, fun h => (by cases h)⟩
 generalize hR : rgtX m = R at *
 refine Ct_intro Tryz.func4 rfl rfl rfl rfl rfl (fun E hn hb => ?_)
 repeat refine nx ?_
 refine W_weaken (St.le_of (l := [(3, exR m), (4, exR m), (5, B8 b), (6, lv (.int .i64 e)), (7, lv (.bool R)), (8, lv (.int .i64 ((0 : Nat) : Int)))]) (h := []) (by refine ⟨?_, ?_⟩ <;> (repeat' (first | exact trivial | exact rfl | refine ⟨?_, ?_⟩)) <;> first | exact rfl | (simp; done) | skip)) ?_
 refine W_loop (ι := {i : Nat // i ≤ m.length ∧ i ≤ 5}) (fun i => St.of [(3, exR m), (4, exR m), (5, B8 b), (6, lv (.int .i64 e)), (7, lv (.bool R)), (8, lv (.int .i64 (i.1 : Int)))] []) (fun i => 5 - i.1) (fun i => ?_) ⟨0, Nat.zero_le _, Nat.zero_le _⟩
 obtain ⟨i, hi, hi5⟩ := i
 dsimp only
 by_cases hi2 : i < m.length ∧ i < 5
 · have hq : m.getD (i : Int).toNat default = m.getD i default := rfl
   have hok := okE_get m2 i hi2.1
   have hrr := refRight_ok (m.getD i default).1 hok.1
   have hvi := hv _ (get_mem hi2.1)
   cases hro : rightO (m.getD i default).1 with
   | false =>
     have hw1 := wone_err (m.getD i default) hok hro
     rw [hro] at hrr
     generalize m.getD i default = x at *
     obtain ⟨xo, xc, xv⟩ := x
     repeat (first | refine nx ?_ | rw [hq] | refine wgF (lv (.bool false)) hn ?_)
     refine N_round ⟨i + 1, by omega, by omega⟩ (by dsimp only; omega) (St.le_of ⟨⟨rfl, rfl, rfl, rfl, rfl, rfl⟩, trivial⟩)
   | true =>
     have hw1 := wone_ok (m.getD i default) hok hvi hro
     have hw2 := rwone_ok (m.getD i default) hvi hro
     have hsm := sameT (wrX (m.getD i default)) (by have := wrX_len (m.getD i default) hro; omega)
     rw [hro] at hrr
     generalize wrX (m.getD i default) = W at *
     generalize m.getD i default = x at *
     obtain ⟨xo, xc, xv⟩ := x
     repeat (first | refine nx ?_ | rw [hq])
     refine N_round ⟨i + 1, by omega, by omega⟩ (by dsimp only; omega) (St.le_of ⟨⟨rfl, rfl, rfl, rfl, rfl, rfl⟩, trivial⟩)
 · cases R with
   | false =>
     obtain ⟨rfl, rfl⟩ := hwf rfl
     repeat refine nx ?_
     refine rt2 [] (congrArg (fun x => lv (.bool x)) ?_) trivial; (simp [eqCs, Cell.kill, Cell.kill1])
   | true =>
     obtain ⟨rfl, rfl⟩ := hwt rfl
     have hT := hT rfl
     have hf := hfwd rfl hT
     simp only [List.nil_append, List.append_nil, List.length_nil, Nat.zero_add] at hf
     have hlz : (wrXs m).length ≤ 1000000 := by have := wrap_len (ofT 16) (m.flatMap wrX); unfold wrXs; omega
     have hwz : WfB (wrXs m) := wrap_wfV _ _ (by decide) (fmX_wf fun e he => (m3 e he).2.2)
     have hc := curnew_ok (wrXs m) (by omega)
     have hrd := xread_ok (wrXs m) 0 (Nat.zero_le _) hlz hwz
     rw [hf] at hrd
     have hrw := rwrite17_ok m (by omega) (rgt_right hR).1 hv hT
     have hsm := sameT (wrXs m) hlz
     have hli := like_self m2 (by omega)
     dsimp only at hrd
     generalize wrXs m = Z at *
     repeat refine nx ?_
     refine rt2 [] (congrArg (fun x => lv (.bool x)) ?_) trivial; (simp [eqCs, Cell.kill, Cell.kill1])

def rawAt (l : List Int) (p : Nat) (t : TagP) : List ExT × Nat × Int :=
 let r := openP l p t
 if r.2.2 = 0 then (let s := exsR r.1 0; (s.1, r.2.1, if s.2.2 = 0 ∧ s.2.1 < r.1.length then 7 else s.2.2)) else ([], p, r.2.2)
def atX (l : List Int) (p : Nat) (t : TagP) : List ExT × Nat × Int := if isH l p t = true then keepP [] p (rawAt l p t) else ([], p, 0)
abbrev tgB (t : TagP) : Blk := .cells [i64c t.1, i64c t.2.1, .lf (.v (.bool t.2.2))]
theorem exsR_le (l : List Int) (p : Nat) (hp : p ≤ l.length) : (exsR l p).2.1 ≤ l.length := by
 rw [exsR_keep]
 exact (keepP_le _ _ _ _ (rawXs_le l p hp)).2
theorem rawAt_le (l : List Int) (p : Nat) (t : TagP) (hp : p ≤ l.length) : p ≤ (rawAt l p t).2.1 ∧ (rawAt l p t).2.1 ≤ l.length := by
 have h := openP_le l p t hp
 unfold rawAt
 dsimp only
 split
 · exact h
 · exact ⟨Nat.le_refl _, hp⟩
set_option maxHeartbeats 8000000 in
theorem rawAt_ok (l : List Int) (p : Nat) (t : TagP) (hp : p ≤ l.length) (hl : l.length ≤ 1000000) (hw : WfB l) : Ct Tryz.prog 66 [.c (.ptr 1 0), .c (.ptr 2 0)] [curB l p, ptrB, tgB t] (exsE (rawAt l p t).1 (rawAt l p t).2.2) [curB l (rawAt l p t).2.1, ptrB, tgB t] [] := by
 have hop := open_ok l p t hp hl hw
 have hoe := open_err l p t hp hl hw
 have hmem := openP_mem l p t
 unfold rawAt
 generalize openP l p t = X at *
 obtain ⟨x, q, e⟩ := X
 dsimp only at *
 obtain ⟨t1, t2, t3⟩ := t
 by_cases he : e = 0
 · subst he
   have hop := hop rfl
   rw [if_pos rfl]
   have hrd := xread_ok x 0 (Nat.zero_le _) (by omega) (fun y hy => hw y (hmem.2 y hy))
   have hrl := exsR_le x 0 (Nat.zero_le _)
   generalize exsR x 0 = A at *
   obtain ⟨m, s, f⟩ := A
   dsimp only at *
   have hlf := left_ok x s hrl (by omega)
   by_cases hf : f = 0
   · subst hf
     by_cases hs : s < x.length
     · rw [if_pos ⟨rfl, hs⟩]
       refine Ct_intro Tryz.func66 rfl rfl rfl rfl rfl (fun E hn hb => ?_)
       repeat refine nx ?_
       exact rt1 []
     · rw [if_neg fun h => hs h.2]
       refine Ct_intro Tryz.func66 rfl rfl rfl rfl rfl (fun E hn hb => ?_)
       repeat refine nx ?_
       exact rt1 []
   · rw [if_neg fun h => hf h.1]
     refine Ct_intro Tryz.func66 rfl rfl rfl rfl rfl (fun E hn hb => ?_)
     repeat refine nx ?_
     exact rt1 []
 · have hoe := hoe he
   rw [if_neg he]
   refine Ct_intro Tryz.func66 rfl rfl rfl rfl rfl (fun E hn hb => ?_)
   repeat refine nx ?_
   exact rtU []
theorem keptA_ok (g : FuncId) (l : List Int) (p q : Nat) (t : TagP) (x : List ExT) (hg : Ct Tryz.prog g [.c (.ptr 1 0), .c (.ptr 2 0)] [curB l p, ptrB, tgB t] (exsE x 0) [curB l q, ptrB, tgB t] []) :
   Ct Tryz.prog 43 [.c (.ptr 0 0), .c (.fn (.func g) [] [.ptr 1 0, .ptr 2 0])] [curB l p, ptrB, tgB t] (exsE x 0) [curB l q, ptrB, tgB t] [] := by
 have h1 := at_ok l p
 refine Ct_intro Tryz.func43 rfl rfl rfl rfl rfl (fun E hn hb => ?_)
 repeat refine nx ?_
 exact rt1 []
theorem keptA_err (g : FuncId) (l : List Int) (p q : Nat) (t : TagP) (x : List ExT) (e : Int) (he : e ≠ 0) (hq : p ≤ q) (hl : q ≤ 1000000) (hg : Ct Tryz.prog g [.c (.ptr 1 0), .c (.ptr 2 0)] [curB l p, ptrB, tgB t] (exsE x e) [curB l q, ptrB, tgB t] []) :
   Ct Tryz.prog 43 [.c (.ptr 0 0), .c (.fn (.func g) [] [.ptr 1 0, .ptr 2 0])] [curB l p, ptrB, tgB t] (exsE [] e) [curB l p, ptrB, tgB t] [] := by
 have h1 := at_ok l p
 have hbk := back_ok l q p hq hl
 refine Ct_intro Tryz.func43 rfl rfl rfl rfl rfl (fun E hn hb => ?_)
 repeat refine nx ?_
 exact rtU []
theorem xreadAt_ok (l : List Int) (p : Nat) (n : Int) (hp : p ≤ l.length) (hl : l.length ≤ 1000000) (hw : WfB l) : Ct Tryz.prog 25 [.c (.ptr 0 0), lv (.int .i64 n)] [curB l p] (exsE (atX l p (2, n, true)).1 (atX l p (2, n, true)).2.2) [curB l (atX l p (2, n, true)).2.1] [] := by
 have hat := headat_ok n true
 have his := hdis_ok l p (2, n, true) hp hl hw
 have h := rawAt_ok l p (2, n, true) hp hl hw
 have hle := rawAt_le l p (2, n, true) hp
 unfold atX
 cases hi : isH l p (2, n, true) with
 | false =>
   rw [hi] at his
   rw [if_neg (by simp)]
   refine Ct_intro Tryz.func25 rfl rfl rfl rfl rfl (fun E hn hb => ?_)
   repeat refine nx ?_
   exact rtU []
 | true =>
   rw [hi] at his
   rw [if_pos rfl]
   have hk : Ct Tryz.prog 43 [.c (.ptr 0 0), .c (.fn (.func 66) [] [.ptr 1 0, .ptr 2 0])] [curB l p, ptrB, tgB (2, n, true)] (exsE (keepP [] p (rawAt l p (2, n, true))).1 (keepP [] p (rawAt l p (2, n, true))).2.2) [curB l (keepP [] p (rawAt l p (2, n, true))).2.1, ptrB, tgB (2, n, true)] [] := by
     by_cases he : (rawAt l p (2, n, true)).2.2 = 0
     · rw [keepP_ok _ _ _ he]
       rw [he] at h ⊢
       exact keptA_ok 66 l p _ _ _ h
     · rw [keepP_err _ _ _ he]
       exact keptA_err 66 l p _ _ _ _ he hle.1 (by omega) h
   generalize keepP [] p (rawAt l p (2, n, true)) = K at *
   refine Ct_intro Tryz.func25 rfl rfl rfl rfl rfl (fun E hn hb => ?_)
   repeat refine nx ?_
   refine s_call [0, 66, 70] hk rfl rfl (by rw [hn]; rfl) rfl rfl (by trivial) ⟨rfl, ⟨rfl, rfl, rfl⟩, (by simp [ordL]), rfl⟩ ?_
   repeat refine nx ?_
   exact rt1 []
theorem xwriteAt_nil (n : Int) : Ct Tryz.prog 26 [exR [], lv (.int .i64 n)] [] (.tup [B8 [], lv (.int .i64 0)]) [] [] := by
 refine Ct_intro Tryz.func26 rfl rfl rfl rfl rfl (fun E hn hb => ?_)
 repeat refine nx ?_
 exact rtU []
theorem xwriteAt_err (l : List ExT) (n : Int) (h0 : 0 < l.length) (hl : l.length ≤ 1000) (h : ∀ e ∈ l, okE e) (hr : rgtX l = false) : Ct Tryz.prog 26 [exR l, lv (.int .i64 n)] [] (.tup [B8 [], lv (.int .i64 1)]) [] [] := by
 have hml : (l.map exL).length = l.length := List.length_map ..
 have hw := xwrite_err l hl h hr
 have hne : l ≠ [] := by rintro rfl; simp at h0
 refine Ct_intro Tryz.func26 rfl rfl rfl rfl rfl (fun E hn hb => ?_)
 repeat refine nx ?_
 exact rtU []
theorem xwriteAt_ok (l : List ExT) (n : Int) (hn0 : 0 ≤ n ∧ n ≤ 3) (hl : l.length ≤ 1000) (h : ∀ e ∈ l, okE e) (hr : rgtX l = true) (hv : ∀ e ∈ l, e.2.2.length ≤ 100000) (hT : (l.flatMap wrX).length ≤ 900000) : Ct Tryz.prog 26 [exR l, lv (.int .i64 n)] [] (.tup [B8 (wrapL (2, n, true) (wrXs l)), lv (.int .i64 0)]) [] [] := by
 have hml : (l.map exL).length = l.length := List.length_map ..
 obtain ⟨_, h0, _⟩ := rgt_right hr
 have hw := xwrite_ok l hl h hr hv hT
 have hne : l ≠ [] := by rintro rfl; simp at h0
 have hz := wrap_len (ofT 16) (l.flatMap wrX)
 change (wrXs l).length ≤ _ at hz
 have hx := explicit_ok n [wrXs l] (by simp) (by simp; omega)
 rw [show [wrXs l].flatten = wrXs l by simp] at hx
 unfold wrapR at hx
 rw [if_pos (by simp [rightT]; omega)] at hx
 generalize wrXs l = Z at *
 refine Ct_intro Tryz.func26 rfl rfl rfl rfl rfl (fun E hn hb => ?_)
 repeat refine nx ?_
 exact rt1 []
set_option maxHeartbeats 16000000 in
theorem rreadAt17_ok (l : List Int) (p : Nat) (n : Int) (hp : p ≤ l.length) (hl : l.length ≤ 1000000) (hw : WfB l) : Ct Tryz.prog 27 [B8 l, lv (.int .i64 (p : Int)), lv (.int .i64 n)] [] (.tup [exR (atX l p (2, n, true)).1, lv (.int .i64 ((atX l p (2, n, true)).2.1 : Int)), lv (.int .i64 (atX l p (2, n, true)).2.2)]) [] [] := by
 have hat := refat2_ok n true
 have hrd := refread_ok l p hp hl hw
 have hop := refopen_ok l p (2, n, true) hp hl hw
 have hmem := openP_mem l p (2, n, true)
 obtain ⟨Z, hZ⟩ : ∃ Z, atX l p (2, n, true) = Z := ⟨_, rfl⟩
 rw [hZ]
 unfold atX isH rawAt at hZ
 generalize readP l p = R at *
 obtain ⟨⟨⟨t1, t2, t3⟩, k⟩, r, g⟩ := R
 dsimp only at hrd hZ
 generalize hC : (decide (g = 0) && decide ((t1, t2, t3) = ((2 : Int), n, true))) = C at *
 cases C with
 | false =>
   have ht : ¬ (g = 0 ∧ t1 = 2 ∧ t2 = n ∧ t3 = true) := by
     rintro ⟨rfl, rfl, rfl, rfl⟩
     simp at hC
   rw [if_neg (by simp)] at hZ
   subst hZ
   refine Ct_intro Tryz.func27 rfl rfl rfl rfl rfl (fun E hn hb => ?_)
   repeat refine nx ?_
   refine W_cond rfl (by simp) (fun hc => ?_) (fun hc => ?_)
   · repeat refine nx ?_
     exact rtU []
   · exfalso
     apply ht
     simp [eqCs, Cell.kill, Cell.kill1] at hc
     simp [hc]
 | true =>
   simp only [Bool.and_eq_true, decide_eq_true_eq, Prod.mk.injEq] at hC
   obtain ⟨rfl, rfl, rfl, rfl⟩ := hC
   rw [if_pos rfl] at hZ
   generalize openP l p (2, t2, true) = X at *
   obtain ⟨x, q, e⟩ := X
   dsimp only at *
   by_cases he : e = 0
   · subst he
     rw [if_pos rfl] at hZ
     have h1 := rread17_ok x 0 (Nat.zero_le _) (by omega) (fun y hy => hw y (hmem.2 y hy))
     generalize exsR x 0 = A at *
     obtain ⟨m, s, f⟩ := A
     dsimp only at *
     by_cases hf : f = 0
     · subst hf
       by_cases hs : s < x.length
       · rw [if_pos ⟨rfl, hs⟩, keepP_err _ _ _ (by simp)] at hZ
         subst hZ
         refine Ct_intro Tryz.func27 rfl rfl rfl rfl rfl (fun E hn hb => ?_)
         repeat refine nx ?_
         refine W_cond rfl (by simp) (fun hc => ?_) (fun hc => ?_)
         · simp [eqCs, Cell.kill, Cell.kill1] at hc
         · repeat refine nx ?_
           exact rtU []
       · rw [if_neg fun h => hs h.2, keepP_ok _ _ _ rfl] at hZ
         subst hZ
         refine Ct_intro Tryz.func27 rfl rfl rfl rfl rfl (fun E hn hb => ?_)
         repeat refine nx ?_
         refine W_cond rfl (by simp) (fun hc => ?_) (fun hc => ?_)
         · simp [eqCs, Cell.kill, Cell.kill1] at hc
         · repeat refine nx ?_
           exact rt1 []
     · rw [if_neg fun h => hf h.1, keepP_err _ _ _ hf] at hZ
       subst hZ
       refine Ct_intro Tryz.func27 rfl rfl rfl rfl rfl (fun E hn hb => ?_)
       repeat refine nx ?_
       refine W_cond rfl (by simp) (fun hc => ?_) (fun hc => ?_)
       · simp [eqCs, Cell.kill, Cell.kill1] at hc
       · repeat refine nx ?_
         exact rtU []
   · rw [if_neg he, keepP_err _ _ _ he] at hZ
     subst hZ
     refine Ct_intro Tryz.func27 rfl rfl rfl rfl rfl (fun E hn hb => ?_)
     repeat refine nx ?_
     refine W_cond rfl (by simp) (fun hc => ?_) (fun hc => ?_)
     · simp [eqCs, Cell.kill, Cell.kill1] at hc
     · repeat refine nx ?_
       exact rtU []

theorem wrap_in (t : TagP) (x : List Int) : x.length ≤ (wrapL t x).length := by
 unfold wrapL
 simp only [List.length_append]
 omega
theorem take_front {l w : List Int} {q : Nat} (h : l = w ++ l.drop q) (hq : q ≤ l.length) : l.take q = w := by
 have h2 := congrArg List.length h
 rw [List.length_append, List.length_drop] at h2
 have : q = w.length := by omega
 rw [h, this, List.take_left]
theorem exsR_take {l : List Int} (hw : WfB l) (h : (exsR l 0).2.2 = 0) : rgtX (exsR l 0).1 = true ∧ l.take (exsR l 0).2.1 = wrXs (exsR l 0).1 ∧ (∀ e ∈ (exsR l 0).1, e.2.2.length ≤ l.length) ∧ ((exsR l 0).1.flatMap wrX).length ≤ l.length := by
 obtain ⟨b1, b2, b3, b4, b5⟩ := exsR_back hw (Nat.zero_le _) h
 have hle := exsR_le l 0 (Nat.zero_le _)
 have ht := take_front b5 hle
 refine ⟨by simp [rgtX, b1, b2, b3], ht, fun e he => (b4 e he).2, ?_⟩
 have h1 := wrap_in (ofT 16) ((exsR l 0).1.flatMap wrX)
 have h2 := congrArg List.length b5
 rw [List.length_append, List.drop_zero] at h2
 omega
theorem atX_take {l : List Int} {t : TagP} (hw : WfB l) (h : (atX l 0 t).2.2 = 0) : ((atX l 0 t).1 = [] ∧ (atX l 0 t).2.1 = 0) ∨
   (rgtX (atX l 0 t).1 = true ∧ l.take (atX l 0 t).2.1 = wrapL t (wrXs (atX l 0 t).1) ∧ (∀ e ∈ (atX l 0 t).1, e.2.2.length ≤ l.length) ∧ ((atX l 0 t).1.flatMap wrX).length ≤ l.length) := by
 unfold atX at h ⊢
 by_cases hi : isH l 0 t = true
 · rw [if_pos hi] at h ⊢
   by_cases h0 : (rawAt l 0 t).2.2 = 0
   · rw [keepP_ok _ _ _ h0]
     right
     have hle := openP_le l 0 t (Nat.zero_le _)
     have hm := openP_mem l 0 t
     unfold rawAt at h0 ⊢
     generalize hO : openP l 0 t = O at *
     obtain ⟨x, q, e⟩ := O
     dsimp only at *
     by_cases he : e = 0
     · subst he
       rw [if_pos rfl] at h0 ⊢
       have hwx : WfB x := fun y hy => hw y (hm.2 y hy)
       have hx := @exsR_take x hwx
       have hxl := exsR_le x 0 (Nat.zero_le _)
       generalize exsR x 0 = A at *
       obtain ⟨m, s, f⟩ := A
       dsimp only at *
       by_cases hc : f = 0 ∧ s < x.length
       · rw [if_pos hc] at h0; cases h0
       · rw [if_neg hc] at h0
         obtain ⟨c1, c2, c3, c4⟩ := hx h0
         have hs : s = x.length := by
           have : ¬ s < x.length := fun h => hc ⟨h0, h⟩
           omega
         rw [hs, List.take_length] at c2
         have hb := (open_back hw hO).2
         rw [List.drop_zero] at hb
         refine ⟨c1, ?_, fun e he => by have := c3 e he; omega, by omega⟩
         rw [take_front hb hle.2, c2]
     · rw [if_neg he] at h0
       exact absurd h0 he
   · rw [keepP_err _ _ _ h0] at h
     exact absurd h h0
 · rw [if_neg hi]
   exact .inl ⟨rfl, rfl⟩
theorem atX_le (l : List Int) (p : Nat) (t : TagP) (hp : p ≤ l.length) : (atX l p t).2.1 ≤ l.length := by
 unfold atX
 split
 · exact (keepP_le _ _ _ _ (rawAt_le l p t hp)).2
 · exact hp
theorem atX_okE (l : List Int) (t : TagP) (hl : l.length ≤ 1000000) (hw : WfB l) : (∀ e ∈ (atX l 0 t).1, okE e) ∧ (atX l 0 t).1.length ≤ 64 := by
 by_cases h : (atX l 0 t).2.2 = 0
 · rcases atX_take hw h with ⟨h1, _⟩ | ⟨c1, _, c3, _⟩
   · rw [h1]; exact ⟨fun e he => (by cases he), by simp⟩
   · obtain ⟨g1, _, g3⟩ := rgt_right c1
     refine ⟨fun e he => ?_, g3⟩
     obtain ⟨_, _, t, ho, _, _, _, _, ht, _⟩ := right_nums (g1.1 e he)
     have := c3 e he
     exact ⟨by rw [ho]; simp; omega, by omega⟩
 · have : (atX l 0 t).1 = [] := by
     unfold atX at h ⊢
     split
     · rename_i hi
       rw [if_pos hi] at h
       by_cases h0 : (rawAt l 0 t).2.2 = 0
       · rw [keepP_ok _ _ _ h0] at h; exact absurd h0 h
       · rw [keepP_err _ _ _ h0]
     · rfl
   rw [this]; exact ⟨fun e he => (by cases he), by simp⟩
set_option maxHeartbeats 32000000 in
theorem back17_ok (l0 : List Int) (n : Int) (hl0 : l0.length ≤ 9223372036854775807) (hw0 : WfB l0) (hn0 : (Go.Lit.int .i64 n).wf = true) : Ct Tryz.prog 5 [B8 l0, lv (.int .i64 n)] [] (lv (.bool true)) [] [] := by
 have hkn := known17_ok
 have hll : (l0.take (min (l0.length : Int) 3000).toNat).length ≤ 3000 := by simp; omega
 have hw : WfB (l0.take (min (l0.length : Int) 3000).toNat) := fun x hx => hw0 x (List.mem_of_mem_take hx)
 refine Ct_intro Tryz.func5 rfl rfl rfl rfl rfl (fun E hn hb => ?_)
 repeat refine nx ?_
 generalize l0.take (min (l0.length : Int) 3000).toNat = l at *
 have hc := curnew_ok l (by omega)
 have h3 := xread_ok l 0 (Nat.zero_le _) (by omega) hw
 have o2 := exsR_okE l 0 (Nat.zero_le _) (by omega) hw
 have hle := exsR_le l 0 (Nat.zero_le _)
 have htk := @exsR_take l hw
 generalize exsR l 0 = M at *
 obtain ⟨m, r, f⟩ := M
 dsimp only at h3 o2 hle htk
 have a2 := at_ok l r
 by_cases hf : f = 0
 focus
   subst hf
   obtain ⟨c1, c2, c3, c4⟩ := htk rfl
   have hwr := xwrite_ok m (by omega) o2.1 c1 (fun e he => by have := c3 e he; omega) (by omega)
   have hrg := xright_ok m (by omega) o2.1
   rw [c1] at hrg
   have hzl : (wrXs m).length ≤ 3000 := by rw [← c2]; simp; omega
   have hsm := sameT (wrXs m) (by omega)
   have hq : l.take ((r : Nat) : Int).toNat = wrXs m := c2
   repeat (first | refine nx ?_ | rw [hq])
   refine sp false rfl rfl (by rw [hn]; rfl) (by simp) ?_
 rotate_left
 focus
   repeat refine nx ?_
   refine sp false rfl rfl (by rw [hn]; rfl) (by simp) ?_
 all_goals
   have hU : 0 ≤ Go.IntKind.u64.wrap n ∧ Go.IntKind.u64.wrap n < 18446744073709551616 := by simp only [Go.IntKind.wrap, Go.IntKind.signed, Go.IntKind.bits]; simp; omega
   generalize Go.IntKind.u64.wrap n = U at *
   repeat refine nx ?_
   have hR : 0 ≤ U % 4 ∧ U % 4 ≤ 3 := by omega
   generalize U % 4 = N at *
   have hrA := xreadAt_ok l 0 N (Nat.zero_le _) (by omega) hw
   have oA := atX_okE l (2, N, true) (by omega) hw
   have hlA := atX_le l 0 (2, N, true) (Nat.zero_le _)
   have htA := @atX_take l (2, N, true) hw
   generalize atX l 0 (2, N, true) = K at *
   obtain ⟨mA, rA, fA⟩ := K
   dsimp only at hrA oA hlA htA
   have a3 := at_ok l rA
   by_cases hfA : fA = 0
   · subst hfA
     rcases htA rfl with ⟨d1, d2⟩ | ⟨d1, d2, d3, d4⟩
     · subst d1
       subst d2
       have hwn := xwriteAt_nil N
       have hsm2 := sameT [] (by simp)
       have hq2 : l.take ((0 : Nat) : Int).toNat = [] := rfl
       repeat (first | refine nx ?_ | rw [hq2])
       refine rt2 [] (congrArg (fun x => lv (.bool x)) ?_) trivial; (simp [eqCs, Cell.kill, Cell.kill1])
     · have hwA := xwriteAt_ok mA N hR (by omega) oA.1 d1 (fun e he => by have := d3 e he; omega) (by omega)
       have hzA : (wrapL (2, N, true) (wrXs mA)).length ≤ 3000 := by rw [← d2]; simp; omega
       have hsm2 := sameT (wrapL (2, N, true) (wrXs mA)) (by omega)
       have hq2 : l.take ((rA : Nat) : Int).toNat = wrapL (2, N, true) (wrXs mA) := d2
       repeat (first | refine nx ?_ | rw [hq2])
       refine rt2 [] (congrArg (fun x => lv (.bool x)) ?_) trivial; (simp [eqCs, Cell.kill, Cell.kill1])
   · repeat refine nx ?_
     refine rt2 [] (congrArg (fun x => lv (.bool x)) ?_) trivial; (simp [eqCs, Cell.kill, Cell.kill1])

theorem atX_fwd {l : List ExT} {n : Int} (hn : 0 ≤ n ∧ n ≤ 3) (hw : ∀ e ∈ l, WfB e.2.2) (hr : rgtX l = true) (hv : ∀ e ∈ l, e.2.2.length ≤ 100000) (hT : (l.flatMap wrX).length ≤ 900000) :
   atX (wrapL (2, n, true) (wrXs l)) 0 (2, n, true) = (l, (wrapL (2, n, true) (wrXs l)).length, 0) := by
 have hrt : rightT (2, n, true) = true := by simp [rightT]; omega
 have hz := wrap_len (ofT 16) (l.flatMap wrX)
 change (wrXs l).length ≤ _ at hz
 have h1 := isH_at [] (wrXs l) [] (2, n, true) (2, n, true) hrt (by omega)
 have h2 := openP_at [] (wrXs l) [] (2, n, true) hrt (by omega)
 have h3 := exsR_fwd [] [] hw hr hv hT (fmX_wf hw)
 simp only [List.nil_append, List.append_nil, List.length_nil, Nat.zero_add] at h1 h2 h3
 unfold atX rawAt
 rw [h1, if_pos (by simp), h2]
 dsimp only
 rw [if_pos rfl, h3]
 dsimp only
 rw [if_neg fun h => Nat.lt_irrefl _ h.2, keepP_ok _ _ _ rfl]
set_option maxHeartbeats 64000000 in
theorem ats17_ok (l0 : List Int) (el : List ExT) (n : Int) (hl0 : l0.length ≤ 9223372036854775807) (hl1 : el.length ≤ 9223372036854775807) (hw0 : WfB l0)
   (hw1 : ∀ e ∈ el, (e.1.length ≤ 9223372036854775807 ∧ ∀ n ∈ e.1, (Go.Lit.int .i64 n).wf = true) ∧ True ∧ (e.2.2.length ≤ 9223372036854775807 ∧ WfB e.2.2)) (hn0 : (Go.Lit.int .i64 n).wf = true) :
   Ct Tryz.prog 6 [B8 l0, exR el, lv (.int .i64 n)] [] (lv (.bool true)) [] [] := by
 have hkn := known17_ok
 have hll : (l0.take (min (l0.length : Int) 3000).toNat).length ≤ 3000 := by simp; omega
 have hw : WfB (l0.take (min (l0.length : Int) 3000).toNat) := fun x hx => hw0 x (List.mem_of_mem_take hx)
 have hfe := few17_ok el hl1 (fun e he => ⟨(hw1 e he).1.1, (hw1 e he).2.2.1⟩)
 obtain ⟨m1, m2, m3⟩ := fewE_ok el hw1
 generalize fewE el = m at *
 have hml : (m.map exL).length = m.length := List.length_map ..
 have ham := all17_ok m (by omega)
 have hrr := rright17_ok m (by omega) m2
 have hv : ∀ e ∈ m, e.2.2.length ≤ 100000 := fun e he => by have := (m3 e he).2.1; omega
 have hwv : ∀ e ∈ m, WfB e.2.2 := fun e he => (m3 e he).2.2
 have hT : rgtX m = true → (m.flatMap wrX).length ≤ 900000 := fun h => by
   have := fmX_len (N := 200) (l := m) fun e he => ⟨(rgt_right h).1.1 e he, (m3 e he).2.1⟩
   have := Nat.mul_le_mul_right (200 + 1020) m1
   omega
 refine Ct_intro Tryz.func6 rfl rfl rfl rfl rfl (fun E hn hb => ?_)
 repeat refine nx ?_
 generalize l0.take (min (l0.length : Int) 3000).toNat = l at *
 refine sp false rfl rfl (by rw [hn]; rfl) (by simp) ?_
 have hU : 0 ≤ Go.IntKind.u64.wrap n ∧ Go.IntKind.u64.wrap n < 18446744073709551616 := by simp only [Go.IntKind.wrap, Go.IntKind.signed, Go.IntKind.bits]; simp; omega
 generalize Go.IntKind.u64.wrap n = U at *
 repeat refine nx ?_
 have hR : 0 ≤ U % 4 ∧ U % 4 ≤ 3 := by omega
 generalize U % 4 = N at *
 have hc := curnew_ok l (by omega)
 have h1 := xreadAt_ok l 0 N (Nat.zero_le _) (by omega) hw
 have h2 := rreadAt17_ok l 0 N (Nat.zero_le _) (by omega) hw
 have oA := atX_okE l (2, N, true) (by omega) hw
 have hlA := atX_le l 0 (2, N, true) (Nat.zero_le _)
 generalize atX l 0 (2, N, true) = K at *
 obtain ⟨mA, rA, fA⟩ := K
 dsimp only at h1 h2 oA hlA
 have a3 := at_ok l rA
 have b1 := all17_ok mA (by omega)
 have c1 := like_self oA.1 (by omega)
 by_cases h0 : m = []
 · subst h0
   have hwn := xwriteAt_nil N
   repeat refine nx ?_
   refine rt2 [] (congrArg (fun x => lv (.bool x)) ?_) trivial; (simp [eqCs, Cell.kill, Cell.kill1])
 · have hpos : 0 < m.length := List.length_pos_iff.2 h0
   cases hrg : rgtX m with
   | false =>
     rw [hrg] at hrr
     have hwe := xwriteAt_err m N hpos (by omega) m2 hrg
     repeat refine nx ?_
     refine rt2 [] (congrArg (fun x => lv (.bool x)) ?_) trivial; (simp [eqCs, Cell.kill, Cell.kill1])
   | true =>
     rw [hrg] at hrr
     have hT := hT hrg
     have hwo := xwriteAt_ok m N hR (by omega) m2 hrg hv hT
     have hwr := rwrite17_ok m (by omega) (rgt_right hrg).1 hv hT
     have hz := wrap_len (ofT 16) (m.flatMap wrX)
     change (wrXs m).length ≤ _ at hz
     have hz2 := wrap_len (2, N, true) (wrXs m)
     have hwz : WfB (wrapL (2, N, true) (wrXs m)) := wrap_wfV _ _ (by simp [rightT]; omega) (wrap_wfV _ _ (by decide) (fmX_wf hwv))
     have hf := atX_fwd hR hwv hrg hv hT
     have hc2 := curnew_ok (wrapL (2, N, true) (wrXs m)) (by omega)
     have hra := xreadAt_ok (wrapL (2, N, true) (wrXs m)) 0 N (Nat.zero_le _) (by omega) hwz
     rw [hf] at hra
     dsimp only at hra
     have hle := left_ok (wrapL (2, N, true) (wrXs m)) (wrapL (2, N, true) (wrXs m)).length (Nat.le_refl _) (by omega)
     have hat := refat2_ok N true
     have hrw := refwrap_ok (2, N, true) (wrXs m) (by simp [rightT]; omega) (by omega)
     have hsm := sameT (wrapL (2, N, true) (wrXs m)) (by omega)
     have hli := like_self m2 (by omega)
     generalize wrXs m = Z at *
     generalize wrapL (2, N, true) Z = Y at *
     have hra' := fun _ : Unit => hra
     have hc2' := fun _ : Unit => hc2
     clear hra hc2
     repeat refine nx ?_
     clear h1 hc
     have hra := hra' ()
     have hc2 := hc2' ()
     repeat refine nx ?_
     refine rt2 [] (congrArg (fun x => lv (.bool x)) ?_) trivial; (simp [eqCs, Cell.kill, Cell.kill1])
end Go.Proofs.YtaagjnlkinojcaaGreatDoor

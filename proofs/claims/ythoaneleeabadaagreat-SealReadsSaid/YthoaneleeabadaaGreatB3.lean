/-
  Build: what has a tag around it; a context's tag in the tag's place. The conditions: rows of bytes that a machine can hold.
-/
import Derived.Test.YthoaneleeabadaaGreatC13
import Derived.Test.YthoaneleeabadaaGreatD15
import Derived.Test.YthoaneleeabadaaGreatC9
import Derived.Test.YthoaneleeabadaaGreatD8
import Derived.Test.YthoaneleeabadaaGreatW16
import Derived.Test.YthoaneleeabadaaGreatSxQ
namespace Go.Proofs.YthoaneleeabadaaGreat
set_option linter.unusedSimpArgs false
set_option linter.unusedVariables false
open Go.Sx
set_option maxRecDepth 10000
abbrev algA (o m : List Int) : Av := .agg [.lf (.ints .i64 o), .lf (.ints .u8 m)]
abbrev rdA : Av := .agg [.ptr 0 0]
theorem opened_ok (l : List Int) (p : Nat) (hp : p ≤ l.length) (hl : l.length ≤ 1000000) (hw : WfB l) (he : (openP l p (ofT 16)).2.2 = 0) : Ct Tryz.prog 78 [.c (.ptr 0 0)] [curB l p] (.tup [.agg [.ptr 1 0], lv (.int .i64 0)]) [curB l (openP l p (ofT 16)).2.1] [curB (openP l p (ofT 16)).1 0] := by
 have hho := headof_ok 16
 have hop := open_ok l p (ofT 16) hp hl hw he
 generalize openP l p (ofT 16) = X at *
 obtain ⟨x, q, e⟩ := X
 dsimp only at *
 refine Ct_intro Tryz.func78 rfl rfl rfl rfl rfl (fun E hn hb => ?_)
 repeat refine nx ?_
 exact rt1 [73]
theorem opened_err (l : List Int) (p : Nat) (hp : p ≤ l.length) (hl : l.length ≤ 1000000) (hw : WfB l) (he : ¬ (openP l p (ofT 16)).2.2 = 0) : Ct Tryz.prog 78 [.c (.ptr 0 0)] [curB l p] (.tup [.agg [.lf (.v (.pointer none))], lv (.int .i64 (openP l p (ofT 16)).2.2)]) [curB l p] [] := by
 have hho := headof_ok 16
 have hop := open_err l p (ofT 16) hp hl hw he
 generalize openP l p (ofT 16) = X at *
 obtain ⟨x, q, e⟩ := X
 dsimp only at *
 refine Ct_intro Tryz.func78 rfl rfl rfl rfl rfl (fun E hn hb => ?_)
 repeat refine nx ?_
 exact rt1 []
def parP (x : List Int) (p : Nat) : List Int × Int × Nat :=
 if p = x.length then ([], 0, p) else
   let r := readP x p
   if r.2.2 = 0 then
     (if (x.length : Int) - (r.2.1 : Int) < r.1.2 then ([], 3, r.2.1) else if r.1.2 < (x.length : Int) - (r.2.1 : Int) then ([], 7, r.2.1) else (x.drop p, 0, x.length))
   else ([], r.2.2, r.2.1)
set_option maxHeartbeats 4000000 in
theorem params_ok (x : List Int) (p : Nat) (hp : p ≤ x.length) (hl : x.length ≤ 1000000) (hw : WfB x) : Ct Tryz.prog 120 [rdA] [curB x p] (.tup [B8 (parP x p).1, lv (.int .i64 (parP x p).2.1)]) [curB x (parP x p).2.2] [] := by
 have hlf := left_ok x p hp (by omega)
 have hat := at_ok x p
 have hrd := headread_ok x p hp hl hw
 have hle := readP_le x p hp
 unfold parP
 by_cases h0 : p = x.length
 · rw [if_pos h0]
   subst h0
   refine Ct_intro Tryz.func120 rfl rfl rfl rfl rfl (fun E hn hb => ?_)
   repeat refine nx ?_
   exact rtU []
 · rw [if_neg h0]
   generalize readP x p = R at *
   obtain ⟨⟨t, n⟩, q, e⟩ := R
   dsimp only at *
   have hlf2 := left_ok x q hle.2 (by omega)
   have hbk := back_ok x q p hle.1 (by omega)
   have hre := rest_ok x p hp hl
   by_cases he : e = 0
   · subst he
     rw [if_pos rfl]
     by_cases h1 : (x.length : Int) - (q : Int) < n
     · rw [if_pos h1]
       refine Ct_intro Tryz.func120 rfl rfl rfl rfl rfl (fun E hn hb => ?_)
       repeat refine nx ?_
       exact rtU []
     · rw [if_neg h1]
       by_cases h2 : n < (x.length : Int) - (q : Int)
       · rw [if_pos h2]
         refine Ct_intro Tryz.func120 rfl rfl rfl rfl rfl (fun E hn hb => ?_)
         repeat refine nx ?_
         exact rtU []
       · rw [if_neg h2]
         refine Ct_intro Tryz.func120 rfl rfl rfl rfl rfl (fun E hn hb => ?_)
         repeat refine nx ?_
         exact rtU []
   · rw [if_neg he]
     refine Ct_intro Tryz.func120 rfl rfl rfl rfl rfl (fun E hn hb => ?_)
     repeat refine nx ?_
     exact rtU []

def stA (l : List Int) (i : Nat) (n : Int) (f : Bool) (o : List Int) : List Int × Int :=
 if i < l.length then
   (if (nxA (l.drop i) i n f).2.1 = 0 then (if o.length = 32 then ([], 2) else prA (l.length + 1) l (nxA (l.drop i) i n f).2.2 (o ++ (if o.length = 0 then splA (nxA (l.drop i) i n f).1 else [(nxA (l.drop i) i n f).1]))) else ([], (nxA (l.drop i) i n f).2.1))
 else (o, 0)
theorem stA_new (l : List Int) (i : Nat) (o : List Int) : stA l i 0 true o = prA (l.length + 1) l i o := by
 unfold stA
 by_cases h : i < l.length
 · rw [if_pos h]
   conv => rhs; unfold prA
   rw [if_pos h]
   dsimp only
   have hn := (nxA_le (l.drop i) i 0 true).2.2 (by rw [drop_at l i h]; simp)
   split
   · split
     · rfl
     · exact prA_fuel l _ _ _ _ (by omega) (by omega)
   · rfl
 · rw [if_neg h]
   unfold prA
   rw [if_neg h]
set_option maxHeartbeats 8000000 in
theorem roparse_ok (l : List Int) (hl : l.length ≤ 1000000) (hw : WfB l) : Ct Tryz.prog 160 [B8 l] [] (.tup [I64 (oidP l).1, lv (.int .i64 (oidP l).2)]) [] [] := by
 by_cases h0 : l = []
 · subst h0
   have e2 : oidP [] = ([], 6) := rfl
   rw [e2]
   refine Ct_intro Tryz.func160 rfl rfl rfl rfl rfl (fun E hn hb => ?_)
   repeat refine nx ?_
   exact rtU []
 obtain ⟨R, hR⟩ : ∃ R, oidP l = R := ⟨_, rfl⟩
 rw [hR]
 unfold oidP at hR
 rw [if_neg h0, ← stA_new] at hR
 obtain ⟨ro, re⟩ := R
 dsimp only
 refine Ct_intro Tryz.func160 rfl rfl rfl rfl rfl (fun E hn hb => ?_)
 repeat refine nx ?_
 refine W_own_nil 4 900 1 (.ints .i64 []) rfl rfl (.inr (.inl ⟨_, rfl⟩)) ?_
 refine W_weaken (St.le_of (l := [(0, B8 l), (4, .c (.own 900 1 0 ([] : List Int).length)), (5, lv (.int .i64 0)), (6, lv (.bool true)), (7, lv (.int .i64 ((0 : Nat) : Int)))]) (h := [(900, .row (.ints .i64 []))]) (by refine ⟨?_, ?_⟩ <;> (repeat' (first | exact trivial | exact rfl | refine ⟨?_, ?_⟩)) <;> first | exact rfl | (simp; done) | skip)) ?_
 refine W_loop (ι := {s : Nat × Int × Bool × List Int // s.1 ≤ l.length ∧ 0 ≤ s.2.1 ∧ s.2.1 ≤ 2147483647 ∧ (s.2.2.1 = false → s.1 < l.length) ∧ s.2.2.2.length ≤ 32 ∧ stA l s.1 s.2.1 s.2.2.1 s.2.2.2 = (ro, re)}) (fun s => St.of [(0, B8 l), (4, .c (.own 900 1 0 s.1.2.2.2.length)), (5, lv (.int .i64 s.1.2.1)), (6, lv (.bool s.1.2.2.1)), (7, lv (.int .i64 (s.1.1 : Int)))] [(900, .row (.ints .i64 s.1.2.2.2))]) (fun s => l.length - s.1.1) (fun s => ?_) ⟨(0, 0, true, []), Nat.zero_le _, by simp, by simp, by simp, by simp, hR⟩
 obtain ⟨⟨i, n, f, o⟩, k1, k2, k3, k4, k5, k6⟩ := s
 dsimp only
 simp only at k1 k2 k3 k4 k5 k6
 by_cases hi : i < l.length
 · unfold stA at k6
   rw [if_pos hi, drop_at l i hi] at k6
   have hx := wf_at hw i
   unfold nxA at k6
   obtain ⟨x, hx1⟩ : ∃ x, l.getD i 0 = x := ⟨_, rfl⟩
   have hx2 : l.getD (i : Int).toNat 0 = x := by rw [Int.toNat_natCast]; exact hx1
   rw [hx1] at k6 hx
   have hm : 0 ≤ x % 128 ∧ x % 128 < 128 := by omega
   by_cases c1 : f = true ∧ x = 128
   · rw [if_pos c1, if_neg (by simp)] at k6
     simp only [Prod.mk.injEq] at k6
     obtain ⟨rfl, rfl⟩ := k6
     obtain ⟨rfl, rfl⟩ := c1
     repeat (first | refine nx ?_ | rw [hx2])
     exact rtU []
   · rw [if_neg c1] at k6
     have c1' : f = true → ¬ x = 128 := fun h h' => c1 ⟨h, h'⟩
     clear c1
     cases f
     case' false => clear c1'
     case' true => replace c1' := c1' rfl
     all_goals
       by_cases c2 : 2147483647 < 128 * n + x % 128
       · rw [if_pos c2, if_neg (by simp)] at k6
         simp only [Prod.mk.injEq] at k6
         obtain ⟨rfl, rfl⟩ := k6
         repeat (first | refine nx ?_ | rw [hx2])
         exact rtU []
       · rw [if_neg c2] at k6
         by_cases c3 : x < 128
         · rw [if_pos c3, if_pos (by rfl)] at k6
           by_cases h32 : o.length = 32
           · rw [if_pos h32] at k6
             simp only [Prod.mk.injEq] at k6
             obtain ⟨rfl, rfl⟩ := k6
             repeat (first | refine nx ?_ | rw [hx2])
             exact rtU []
           · rw [if_neg h32, ← stA_new] at k6
             by_cases ho : o.length = 0
             · rw [if_pos ho] at k6
               obtain rfl := List.eq_nil_of_length_eq_zero ho
               unfold splA at k6
               by_cases d1 : 128 * n + x % 128 < 80
               · rw [if_pos d1] at k6
                 by_cases d2 : 128 * n + x % 128 < 40
                 · rw [show (128 * n + x % 128) / 40 = 0 by omega, show (128 * n + x % 128) % 40 = 128 * n + x % 128 by omega] at k6
                   repeat (first | refine nx ?_ | rw [hx2])
                   refine N_round ⟨(i + 1, 0, true, [] ++ [0, 128 * n + x % 128]), by dsimp only; omega, by simp, by simp, by simp, by simp, k6⟩ (by dsimp only; omega) (St.le_of ⟨⟨rfl, rfl, rfl, rfl, rfl⟩, rfl⟩)
                 · rw [show (128 * n + x % 128) / 40 = 1 by omega, show (128 * n + x % 128) % 40 = 128 * n + x % 128 - 40 by omega] at k6
                   repeat (first | refine nx ?_ | rw [hx2])
                   refine N_round ⟨(i + 1, 0, true, [] ++ [1, 128 * n + x % 128 - 40]), by dsimp only; omega, by simp, by simp, by simp, by simp, k6⟩ (by dsimp only; omega) (St.le_of ⟨⟨rfl, rfl, rfl, rfl, rfl⟩, rfl⟩)
               · rw [if_neg d1] at k6
                 repeat (first | refine nx ?_ | rw [hx2])
                 refine N_round ⟨(i + 1, 0, true, [] ++ [2, 128 * n + x % 128 - 80]), by dsimp only; omega, by simp, by simp, by simp, by simp, k6⟩ (by dsimp only; omega) (St.le_of ⟨⟨rfl, rfl, rfl, rfl, rfl⟩, rfl⟩)
             · rw [if_neg ho] at k6
               repeat (first | refine nx ?_ | rw [hx2])
               refine N_round ⟨(i + 1, 0, true, o ++ [128 * n + x % 128]), by dsimp only; omega, by simp, by simp, by simp, by simp; omega, k6⟩ (by dsimp only; omega) (St.le_of ⟨⟨rfl, rfl, rfl, rfl, rfl⟩, rfl⟩)
         · rw [if_neg c3] at k6
           by_cases hlast : i + 1 = l.length
           · rw [hlast, List.drop_length] at k6
             rw [show nxA [] l.length (128 * n + x % 128) false = (0, 6, l.length) from rfl, if_neg (by simp)] at k6
             simp only [Prod.mk.injEq] at k6
             obtain ⟨rfl, rfl⟩ := k6
             repeat (first | refine nx ?_ | rw [hx2])
             exact rtU []
           · have k7 : stA l (i + 1) (128 * n + x % 128) false o = (ro, re) := by
               unfold stA
               rw [if_pos (by omega)]
               exact k6
             repeat (first | refine nx ?_ | rw [hx2])
             refine N_round ⟨(i + 1, 128 * n + x % 128, false, o), by dsimp only; omega, by dsimp only; omega, by dsimp only; omega, by intro _; dsimp only; omega, by dsimp only; omega, k7⟩ (by dsimp only; omega) (St.le_of ⟨⟨rfl, rfl, rfl, rfl, rfl⟩, rfl⟩)
 · unfold stA at k6
   rw [if_neg hi] at k6
   simp only [Prod.mk.injEq] at k6
   obtain ⟨rfl, rfl⟩ := k6
   obtain rfl : i = l.length := by omega
   repeat refine nx ?_
   refine frzN 2 ?_
   exact rtU []
end Go.Proofs.YthoaneleeabadaaGreat

namespace Go.Proofs.YthoaneleeabadaaGreat
set_option linter.unusedSimpArgs false
set_option linter.unusedVariables false
open Go.Sx
set_option maxRecDepth 10000
theorem roread_ok (l : List Int) (p : Nat) (hp : p ≤ l.length) (hl : l.length ≤ 1000000) (hw : WfB l) : Ct Tryz.prog 132 [B8 l, lv (.int .i64 (p : Int))] [] (.tup [I64 (oidR l p).1, lv (.int .i64 ((oidR l p).2.1 : Int)), lv (.int .i64 (oidR l p).2.2)]) [] [] := by
 have hof := refoft_ok 6
 have hop := refopen_ok l p (ofT 6) hp hl hw
 have hmem := openP_mem l p (ofT 6)
 unfold oidR
 generalize openP l p (ofT 6) = X at *
 obtain ⟨x, q, e⟩ := X
 dsimp only at *
 have hpa := roparse_ok x (by omega) (fun y hy => hw y (hmem.2 y hy))
 generalize oidP x = Y at *
 obtain ⟨o, f⟩ := Y
 dsimp only at *
 by_cases he : e = 0
 · subst he
   rw [if_pos rfl]
   by_cases hf : f = 0
   · subst hf
     rw [if_pos rfl]
     refine Ct_intro Tryz.func132 rfl rfl rfl rfl rfl (fun E hn hb => ?_)
     repeat refine nx ?_
     exact rtU []
   · rw [if_neg hf]
     refine Ct_intro Tryz.func132 rfl rfl rfl rfl rfl (fun E hn hb => ?_)
     repeat refine nx ?_
     exact rtU []
 · rw [if_neg he]
   refine Ct_intro Tryz.func132 rfl rfl rfl rfl rfl (fun E hn hb => ?_)
   repeat refine nx ?_
   exact rtU []
end Go.Proofs.YthoaneleeabadaaGreat

namespace Go.Proofs.YthoaneleeabadaaGreat
set_option linter.unusedSimpArgs false
set_option linter.unusedVariables false
open Go.Sx
set_option maxRecDepth 10000
def algP (x : List Int) (p : Nat) : List Int × List Int × Int × Nat :=
 let o := oidR x p
 if o.2.2 = 0 then (let m := parP x o.2.1; if m.2.1 = 0 then (o.1, m.1, 0, m.2.2) else ([], [], m.2.1, m.2.2)) else ([], [], o.2.2, o.2.1)
def algR (l : List Int) (p : Nat) : List Int × List Int × Int × Nat :=
 let r := openP l p (ofT 16)
 if r.2.2 = 0 then (let a := algP r.1 0; if a.2.2.1 = 0 then (a.1, a.2.1, 0, r.2.1) else ([], [], a.2.2.1, p)) else ([], [], r.2.2, p)
theorem algP_err (x : List Int) (p : Nat) (h : ¬ (algP x p).2.2.1 = 0) : (algP x p).1 = [] ∧ (algP x p).2.1 = [] := by
 unfold algP at h ⊢
 dsimp only at h ⊢
 split at h
 · rename_i h1
   rw [if_pos h1]
   split at h
   · exact absurd rfl h
   · rename_i h2
     rw [if_neg h2]
     exact ⟨rfl, rfl⟩
 · rename_i h1
   rw [if_neg h1]
   exact ⟨rfl, rfl⟩
set_option maxHeartbeats 4000000 in
theorem alg_ok (x : List Int) (p : Nat) (hp : p ≤ x.length) (hl : x.length ≤ 1000000) (hw : WfB x) : Ct Tryz.prog 79 [rdA] [curB x p] (.tup [algA (algP x p).1 (algP x p).2.1, lv (.int .i64 (algP x p).2.2.1)]) [curB x (algP x p).2.2.2] [] := by
 have hor := oread_ok x p hp hl hw
 have hle := oidR_le x p hp
 unfold algP
 generalize oidR x p = O at *
 obtain ⟨o, q, e⟩ := O
 dsimp only at *
 by_cases he : e = 0
 · subst he
   rw [if_pos rfl]
   have hpa := params_ok x q hle.2 hl hw
   generalize parP x q = M at *
   obtain ⟨m, f, q2⟩ := M
   dsimp only at *
   by_cases hf : f = 0
   · subst hf
     rw [if_pos rfl]
     refine Ct_intro Tryz.func79 rfl rfl rfl rfl rfl (fun E hn hb => ?_)
     repeat refine nx ?_
     exact rt1 []
   · rw [if_neg hf]
     refine Ct_intro Tryz.func79 rfl rfl rfl rfl rfl (fun E hn hb => ?_)
     repeat refine nx ?_
     refine rtU [] (hu := ?_)
     exact ⟨⟨.inr ⟨rfl, .inl ⟨_, rfl⟩⟩, .inr ⟨rfl, .inl ⟨_, rfl⟩⟩, trivial⟩, .inl rfl, trivial⟩
 · rw [if_neg he]
   refine Ct_intro Tryz.func79 rfl rfl rfl rfl rfl (fun E hn hb => ?_)
   repeat refine nx ?_
   refine rtU [] (hu := ?_)
   exact ⟨⟨.inr ⟨rfl, .inl ⟨_, rfl⟩⟩, .inr ⟨rfl, .inl ⟨_, rfl⟩⟩, trivial⟩, .inl rfl, trivial⟩
set_option maxHeartbeats 4000000 in
theorem readalg_ok (l : List Int) (p : Nat) (hp : p ≤ l.length) (hl : l.length ≤ 1000000) (hw : WfB l) : Ct Tryz.prog 26 [.c (.ptr 0 0)] [curB l p] (.tup [algA (algR l p).1 (algR l p).2.1, lv (.int .i64 (algR l p).2.2.1)]) [curB l (algR l p).2.2.2] [] := by
 have hat := at_ok l p
 have hok := opened_ok l p hp hl hw
 have her := opened_err l p hp hl hw
 have hle := openP_le l p (ofT 16) hp
 have hmem := openP_mem l p (ofT 16)
 unfold algR
 generalize openP l p (ofT 16) = X at *
 obtain ⟨x, q, e⟩ := X
 dsimp only at *
 by_cases he : e = 0
 · subst he
   rw [if_pos rfl]
   have hok := hok rfl
   have hal := alg_ok x 0 (Nat.zero_le _) (by omega) (fun y hy => hw y (hmem.2 y hy))
   have hnil := algP_err x 0
   have hbk := back_ok l q p hle.1 (by omega)
   generalize algP x 0 = A at *
   obtain ⟨o, m, f, q2⟩ := A
   dsimp only at *
   by_cases hf : f = 0
   · subst hf
     rw [if_pos rfl]
     refine Ct_intro Tryz.func26 rfl rfl rfl rfl rfl (fun E hn hb => ?_)
     repeat refine nx ?_
     exact rt1 []
   · obtain ⟨rfl, rfl⟩ := hnil hf
     rw [if_neg hf]
     refine Ct_intro Tryz.func26 rfl rfl rfl rfl rfl (fun E hn hb => ?_)
     repeat refine nx ?_
     exact rt1 []
 · rw [if_neg he]
   have her := her he
   refine Ct_intro Tryz.func26 rfl rfl rfl rfl rfl (fun E hn hb => ?_)
   repeat refine nx ?_
   refine rtU [] (hu := ?_)
   exact ⟨⟨.inr ⟨rfl, .inl ⟨_, rfl⟩⟩, .inr ⟨rfl, .inl ⟨_, rfl⟩⟩, trivial⟩, .inl rfl, trivial⟩
set_option maxHeartbeats 4000000 in
theorem rreadalg_ok (l : List Int) (p : Nat) (hp : p ≤ l.length) (hl : l.length ≤ 1000000) (hw : WfB l) : Ct Tryz.prog 96 [B8 l, lv (.int .i64 (p : Int))] [] (.tup [algA (algR l p).1 (algR l p).2.1, lv (.int .i64 ((algR l p).2.2.2 : Int)), lv (.int .i64 (algR l p).2.2.1)]) [] [] := by
 have hof := refoft_ok 16
 have hop := refopen_ok l p (ofT 16) hp hl hw
 have hmem := openP_mem l p (ofT 16)
 unfold algR algP parP
 generalize openP l p (ofT 16) = X at *
 obtain ⟨x, q, e⟩ := X
 dsimp only at *
 by_cases he : e = 0
 · subst he
   rw [if_pos rfl]
   have hxw : WfB x := fun y hy => hw y (hmem.2 y hy)
   have hro := roread_ok x 0 (Nat.zero_le _) (by omega) hxw
   have hle := oidR_le x 0 (Nat.zero_le _)
   generalize oidR x 0 = O at *
   obtain ⟨o, q1, e1⟩ := O
   dsimp only at *
   by_cases he1 : e1 = 0
   · subst he1
     rw [if_pos rfl]
     have hrr := refread_ok x q1 hle.2 (by omega) hxw
     have hrl := readP_le x q1 hle.2
     by_cases h0 : q1 = x.length
     · rw [if_pos h0]
       subst h0
       simp only [reduceIte, Int.reduceEq]
       refine Ct_intro Tryz.func96 rfl rfl rfl rfl rfl (fun E hn hb => ?_)
       repeat refine nx ?_
       refine rtU [] (hu := ?_)
       exact ⟨⟨.inl rfl, .inr ⟨rfl, .inl ⟨_, rfl⟩⟩, trivial⟩, .inl rfl, .inl rfl, trivial⟩
     · rw [if_neg h0]
       generalize readP x q1 = R at *
       obtain ⟨⟨t, n⟩, q2, e2⟩ := R
       dsimp only at *
       by_cases he2 : e2 = 0
       · subst he2
         rw [if_pos rfl]
         by_cases h1 : (x.length : Int) - (q2 : Int) < n
         · rw [if_pos h1]
           simp only [reduceIte, Int.reduceEq]
           refine Ct_intro Tryz.func96 rfl rfl rfl rfl rfl (fun E hn hb => ?_)
           repeat refine nx ?_
           refine rtU [] (hu := ?_)
           exact ⟨⟨.inr ⟨rfl, .inl ⟨_, rfl⟩⟩, .inr ⟨rfl, .inl ⟨_, rfl⟩⟩, trivial⟩, .inl rfl, .inl rfl, trivial⟩
         · rw [if_neg h1]
           by_cases h2 : n < (x.length : Int) - (q2 : Int)
           · rw [if_pos h2]
             simp only [reduceIte, Int.reduceEq]
             refine Ct_intro Tryz.func96 rfl rfl rfl rfl rfl (fun E hn hb => ?_)
             repeat refine nx ?_
             refine rtU [] (hu := ?_)
             exact ⟨⟨.inr ⟨rfl, .inl ⟨_, rfl⟩⟩, .inr ⟨rfl, .inl ⟨_, rfl⟩⟩, trivial⟩, .inl rfl, .inl rfl, trivial⟩
           · rw [if_neg h2]
             simp only [reduceIte, Int.reduceEq]
             refine Ct_intro Tryz.func96 rfl rfl rfl rfl rfl (fun E hn hb => ?_)
             repeat refine nx ?_
             exact rt1 []
       · rw [if_neg he2]
         simp only [reduceIte, Int.reduceEq, he2]
         refine Ct_intro Tryz.func96 rfl rfl rfl rfl rfl (fun E hn hb => ?_)
         repeat refine nx ?_
         refine rtU [] (hu := ?_)
         exact ⟨⟨.inr ⟨rfl, .inl ⟨_, rfl⟩⟩, .inr ⟨rfl, .inl ⟨_, rfl⟩⟩, trivial⟩, .inl rfl, .inl rfl, trivial⟩
   · rw [if_neg he1]
     simp only [reduceIte, Int.reduceEq, he1]
     refine Ct_intro Tryz.func96 rfl rfl rfl rfl rfl (fun E hn hb => ?_)
     repeat refine nx ?_
     refine rtU [] (hu := ?_)
     exact ⟨⟨.inr ⟨rfl, .inl ⟨_, rfl⟩⟩, .inr ⟨rfl, .inl ⟨_, rfl⟩⟩, trivial⟩, .inl rfl, .inl rfl, trivial⟩
 · rw [if_neg he]
   simp only [reduceIte, Int.reduceEq, he]
   refine Ct_intro Tryz.func96 rfl rfl rfl rfl rfl (fun E hn hb => ?_)
   repeat refine nx ?_
   refine rtU [] (hu := ?_)
   exact ⟨⟨.inr ⟨rfl, .inl ⟨_, rfl⟩⟩, .inr ⟨rfl, .inl ⟨_, rfl⟩⟩, trivial⟩, .inl rfl, .inl rfl, trivial⟩
end Go.Proofs.YthoaneleeabadaaGreat

namespace Go.Proofs.YthoaneleeabadaaGreat
set_option linter.unusedSimpArgs false
set_option linter.unusedVariables false
open Go.Sx
set_option maxRecDepth 10000
theorem wrap_len (t : TagP) (X : List Int) : (wrapL t X).length ≤ X.length + 20 := by
 have h1 := lowD_len 128 5 t.2.1.toNat
 have h2 := lowD_len 256 5 X.length
 have hT5 : (tgL t).length ≤ 10 := by
   unfold tgL
   split
   · simp
   · simp [hiL_len]; omega
 have hL5 : (lenL X.length).length ≤ 10 := by
   generalize X.length = n at *
   unfold lenL
   split
   · simp
   · simp; omega
 simp only [wrapL, List.length_append]
 omega
theorem wfB_app {a b : List Int} (ha : WfB a) (hb : WfB b) : WfB (a ++ b) := fun x hx => (List.mem_append.1 hx).elim (ha x) (hb x)
theorem wrap_wf (t : TagP) (X : List Int) (h : rightT t = true) (hw : WfB X) : WfB (wrapL t X) := by
 have hr : 0 ≤ t.1 ∧ t.1 ≤ 3 ∧ 0 ≤ t.2.1 ∧ t.2.1 < 2097152 := by simp [rightT] at h; omega
 have hfm := first_mem h
 have hfi : 0 ≤ firstI t ∧ firstI t ≤ 224 := by
   simp only [List.mem_cons, List.not_mem_nil, or_false] at hfm
   omega
 have hD := lowD_lt 128 (by decide) 5 t.2.1.toNat
 have h2 := lowD_len 256 5 X.length
 have hL := lowD_wf 256 (by decide) (by decide) 5 X.length
 refine wfB_app (wfB_app ?_ ?_) hw
 · unfold tgL
   split
   · intro x hx
     rw [List.mem_singleton.1 hx]
     omega
   · intro x hx
     cases hx with
     | head => omega
     | tail _ hx =>
       unfold hiL at hx
       rcases List.mem_append.1 hx with hx | hx
       · obtain ⟨y, hy, rfl⟩ := List.mem_map.1 hx
         have := hD y (List.mem_reverse.1 (List.mem_of_mem_take hy))
         omega
       · have := hD x (List.mem_reverse.1 (List.mem_of_mem_drop hx))
         omega
 · unfold lenL
   split
   · intro x hx
     rw [List.mem_singleton.1 hx]
     omega
   · intro x hx
     cases hx with
     | head => omega
     | tail _ hx => exact hL x (List.mem_reverse.1 hx)
end Go.Proofs.YthoaneleeabadaaGreat

namespace Go.Proofs.YthoaneleeabadaaGreat
set_option linter.unusedSimpArgs false
set_option linter.unusedVariables false
open Go.Sx
set_option maxRecDepth 10000
def oneP (l : List Int) (p : Nat) : List Int × TagP × List Int × Int × Nat :=
 if ¬ (readP l p).2.2 = 0 then ([], (readP l p).1.1, [], (readP l p).2.2, p)
 else if (l.length : Int) - (readP l p).2.1 < (readP l p).1.2 then ([], (readP l p).1.1, [], 3, p)
 else ((l.drop p).take ((readP l p).2.1 - p + (readP l p).1.2.toNat), (readP l p).1.1, (l.drop (readP l p).2.1).take (readP l p).1.2.toNat, 0, (readP l p).2.1 + (readP l p).1.2.toNat)
set_option maxHeartbeats 4000000 in
theorem one_ok (l : List Int) (p : Nat) (hp : p ≤ l.length) (hl : l.length ≤ 1000000) (hw : WfB l) :
   Ct Tryz.prog 114 [.c (.ptr 0 0)] [curB l p] (.tup [B8 (oneP l p).1, tagA (oneP l p).2.1, B8 (oneP l p).2.2.1, lv (.int .i64 (oneP l p).2.2.2.1)]) [curB l (oneP l p).2.2.2.2] [] := by
 have hr := headread_ok l p hp hl hw
 have hle := readP_le l p hp
 have hpos := readP_pos l p hw
 have hst : ¬ (readP l p).2.2 = 0 → (readP l p).2.1 = p := keepP_stay _ _ _
 have hat := at_ok l p
 generalize hRR : oneP l p = R
 unfold oneP at hRR
 generalize readP l p = F at *
 obtain ⟨⟨⟨t1, t2, t3⟩, n⟩, q, e⟩ := F
 dsimp only at *
 by_cases he : e = 0
 · subst he
   rw [if_neg (by simp)] at hRR
   obtain ⟨N, rfl⟩ : ∃ N : Nat, n = N := ⟨n.toNat, by omega⟩
   rw [Int.toNat_natCast] at hRR
   have hat2 := at_ok l q
   have hlf := left_ok l q hle.2 (by omega)
   have hbk := back_ok l q p hle.1 (by omega)
   by_cases hN : (l.length : Int) - q < N
   · rw [if_pos hN] at hRR
     subst hRR
     refine Ct_intro Tryz.func114 rfl rfl rfl rfl rfl (fun E hn hb => ?_)
     repeat refine nx ?_
     exact rtU []
   · rw [if_neg hN] at hRR
     subst hRR
     have htk := take_ok l p (q - p + N) (by omega) hl
     rw [show ((q - p + N : Nat) : Int) = ((q : Int) - (p : Int)) + (N : Int) by omega, show p + (q - p + N) = q + N by omega] at htk
     have hcut : (((l.drop p).take (q - p + N)).take (((l.drop p).take (q - p + N)).length : Int).toNat).drop ((q : Int) - (p : Int)).toNat = (l.drop q).take N := by
       rw [Int.toNat_natCast, List.take_length, show ((q : Int) - (p : Int)).toNat = q - p by omega, List.drop_take, List.drop_drop]
       congr 1
       · omega
       · congr 1; omega
     dsimp only
     rw [← hcut]
     refine Ct_intro Tryz.func114 rfl rfl rfl rfl rfl (fun E hn hb => ?_)
     repeat refine nx ?_
     exact rtU []
 · rw [if_pos he] at hRR
   obtain rfl := hst he
   subst hRR
   refine Ct_intro Tryz.func114 rfl rfl rfl rfl rfl (fun E hn hb => ?_)
   repeat refine nx ?_
   exact rtU []
theorem one_le (l : List Int) (p : Nat) (hp : p ≤ l.length) (hw : WfB l) : p ≤ (oneP l p).2.2.2.2 ∧ (oneP l p).2.2.2.2 ≤ l.length ∧ (oneP l p).1.length ≤ l.length ∧ (oneP l p).2.2.1.length ≤ l.length := by
 have hle := readP_le l p hp
 have hpos := readP_pos l p hw
 unfold oneP
 split
 · exact ⟨Nat.le_refl _, hp, Nat.zero_le _, Nat.zero_le _⟩
 · split
   · exact ⟨Nat.le_refl _, hp, Nat.zero_le _, Nat.zero_le _⟩
   · dsimp only
     refine ⟨by omega, by omega, ?_, ?_⟩ <;> simp <;> omega
end Go.Proofs.YthoaneleeabadaaGreat

namespace Go.Proofs.YthoaneleeabadaaGreat
set_option linter.unusedSimpArgs false
set_option linter.unusedVariables false
open Go.Sx
set_option maxRecDepth 10000
theorem sequence_ok (bs : List (List Int)) (hbl : bs.length ≤ 100000) (hl : bs.flatten.length ≤ 1000000) : Ct Tryz.prog 60 [rowsA bs] [] (.tup [B8 (wrapL (ofT 16) bs.flatten), lv (.int .i64 0)]) [] [] := by
 have h1 := headof_ok 16
 have h2 := wrap_ok (ofT 16) bs (by decide) hbl hl
 refine Ct_intro Tryz.func60 rfl rfl rfl rfl rfl (fun E hn hb => ?_)
 repeat refine nx ?_
 exact rt1 []
end Go.Proofs.YthoaneleeabadaaGreat

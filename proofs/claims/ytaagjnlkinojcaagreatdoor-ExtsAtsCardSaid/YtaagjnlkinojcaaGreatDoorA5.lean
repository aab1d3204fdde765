/-
  Oids that are read: the document's reader. The conditions: rows of bytes that a machine can hold.
-/
import Derived.Test.YtaagjnlkinojcaaGreatDoorW19
import Derived.Test.YtaagjnlkinojcaaGreatDoorC9
import Derived.Test.YtaagjnlkinojcaaGreatDoorC13
namespace Go.Proofs.YtaagjnlkinojcaaGreatDoor
set_option linter.unusedSimpArgs false
set_option linter.unusedVariables false
open Go.Sx
set_option maxRecDepth 10000
@[simp] theorem size_str (l : List Int) : (strOfNums l).size = l.length := strOfNums_size l
end Go.Proofs.YtaagjnlkinojcaaGreatDoor

namespace Go.Proofs.YtaagjnlkinojcaaGreatDoor
set_option linter.unusedSimpArgs false
set_option linter.unusedVariables false
open Go.Sx
set_option maxRecDepth 10000
def tw2 (n : Int) : List Int := [48 + n / 10 % 10, 48 + n % 10]
@[simp] theorem tw2_len (n : Int) : (tw2 n).length = 2 := rfl
end Go.Proofs.YtaagjnlkinojcaaGreatDoor

namespace Go.Proofs.YtaagjnlkinojcaaGreatDoor
set_option linter.unusedSimpArgs false
set_option linter.unusedVariables false
open Go.Sx
set_option maxRecDepth 10000
def stA (l : List Int) (i : Nat) (n : Int) (f : Bool) (o : List Int) : List Int × Int :=
 if i < l.length then
   (if (nxA (l.drop i) i n f).2.1 = 0 then (if o.length = 32 then ([], 2) else prA (l.length + 1) l (nxA (l.drop i) i n f).2.2 (o ++ (if o.length = 0 then splA (nxA (l.drop i) i n f).1 else [(nxA (l.drop i) i n f).1]))) else ([], (nxA (l.drop i) i n f).2.1))
 else (o, 0)
theorem stA_new (l : List Int) (i : Nat) (o : List Int) : stA l i 0 true o = prA (l.length + 1) l i o := by
 unfold stA
 by_cases h : i < l.length
 · rw [if_pos h]
   conv => rhs; unfold prA
   rw [if_pos h]
   dsimp only
   have hn := (nxA_le (l.drop i) i 0 true).2.2 (by rw [drop_at l i h]; simp)
   split
   · split
     · rfl
     · exact prA_fuel l _ _ _ _ (by omega) (by omega)
   · rfl
 · rw [if_neg h]
   unfold prA
   rw [if_neg h]
set_option maxHeartbeats 8000000 in
theorem roparse_ok (l : List Int) (hl : l.length ≤ 1000000) (hw : WfB l) : Ct Tryz.prog 81 [B8 l] [] (.tup [I64 (oidP l).1, lv (.int .i64 (oidP l).2)]) [] [] := by
 by_cases h0 : l = []
 · subst h0
   have e2 : oidP [] = ([], 6) := rfl
   rw [e2]
   refine Ct_intro Tryz.func81 rfl rfl rfl rfl rfl (fun E hn hb => ?_)
   repeat refine nx ?_
   exact rtU []
 obtain ⟨R, hR⟩ : ∃ R, oidP l = R := ⟨_, rfl⟩
 rw [hR]
 unfold oidP at hR
 rw [if_neg h0, ← stA_new] at hR
 obtain ⟨ro, re⟩ := R
 dsimp only
 refine Ct_intro Tryz.func81 rfl rfl rfl rfl rfl (fun E hn hb => ?_)
 repeat refine nx ?_
 refine W_own_nil 4 900 1 (.ints .i64 []) rfl rfl (.inr (.inl ⟨_, rfl⟩)) ?_
 refine W_weaken (St.le_of (l := [(0, B8 l), (4, .c (.own 900 1 0 ([] : List Int).length)), (5, lv (.int .i64 0)), (6, lv (.bool true)), (7, lv (.int .i64 ((0 : Nat) : Int)))]) (h := [(900, .row (.ints .i64 []))]) (by refine ⟨?_, ?_⟩ <;> (repeat' (first | exact trivial | exact rfl | refine ⟨?_, ?_⟩)) <;> first | exact rfl | (simp; done) | skip)) ?_
 refine W_loop (ι := {s : Nat × Int × Bool × List Int // s.1 ≤ l.length ∧ 0 ≤ s.2.1 ∧ s.2.1 ≤ 2147483647 ∧ (s.2.2.1 = false → s.1 < l.length) ∧ s.2.2.2.length ≤ 32 ∧ stA l s.1 s.2.1 s.2.2.1 s.2.2.2 = (ro, re)}) (fun s => St.of [(0, B8 l), (4, .c (.own 900 1 0 s.1.2.2.2.length)), (5, lv (.int .i64 s.1.2.1)), (6, lv (.bool s.1.2.2.1)), (7, lv (.int .i64 (s.1.1 : Int)))] [(900, .row (.ints .i64 s.1.2.2.2))]) (fun s => l.length - s.1.1) (fun s => ?_) ⟨(0, 0, true, []), Nat.zero_le _, by simp, by simp, by simp, by simp, hR⟩
 obtain ⟨⟨i, n, f, o⟩, k1, k2, k3, k4, k5, k6⟩ := s
 dsimp only
 simp only at k1 k2 k3 k4 k5 k6
 by_cases hi : i < l.length
 · unfold stA at k6
   rw [if_pos hi, drop_at l i hi] at k6
   have hx := wf_at hw i
   unfold nxA at k6
   obtain ⟨x, hx1⟩ : ∃ x, l.getD i 0 = x := ⟨_, rfl⟩
   have hx2 : l.getD (i : Int).toNat 0 = x := by rw [Int.toNat_natCast]; exact hx1
   rw [hx1] at k6 hx
   have hm : 0 ≤ x % 128 ∧ x % 128 < 128 := by omega
   by_cases c1 : f = true ∧ x = 128
   · rw [if_pos c1, if_neg (by simp)] at k6
     simp only [Prod.mk.injEq] at k6
     obtain ⟨rfl, rfl⟩ := k6
     obtain ⟨rfl, rfl⟩ := c1
     repeat (first | refine nx ?_ | rw [hx2])
     exact rtU []
   · rw [if_neg c1] at k6
     have c1' : f = true → ¬ x = 128 := fun h h' => c1 ⟨h, h'⟩
     clear c1
     cases f
     case' false => clear c1'
     case' true => replace c1' := c1' rfl
     all_goals
       by_cases c2 : 2147483647 < 128 * n + x % 128
       · rw [if_pos c2, if_neg (by simp)] at k6
         simp only [Prod.mk.injEq] at k6
         obtain ⟨rfl, rfl⟩ := k6
         repeat (first | refine nx ?_ | rw [hx2])
         exact rtU []
       · rw [if_neg c2] at k6
         by_cases c3 : x < 128
         · rw [if_pos c3, if_pos (by rfl)] at k6
           by_cases h32 : o.length = 32
           · rw [if_pos h32] at k6
             simp only [Prod.mk.injEq] at k6
             obtain ⟨rfl, rfl⟩ := k6
             repeat (first | refine nx ?_ | rw [hx2])
             exact rtU []
           · rw [if_neg h32, ← stA_new] at k6
             by_cases ho : o.length = 0
             · rw [if_pos ho] at k6
               obtain rfl := List.eq_nil_of_length_eq_zero ho
               unfold splA at k6
               by_cases d1 : 128 * n + x % 128 < 80
               · rw [if_pos d1] at k6
                 by_cases d2 : 128 * n + x % 128 < 40
                 · rw [show (128 * n + x % 128) / 40 = 0 by omega, show (128 * n + x % 128) % 40 = 128 * n + x % 128 by omega] at k6
                   repeat (first | refine nx ?_ | rw [hx2])
                   refine N_round ⟨(i + 1, 0, true, [] ++ [0, 128 * n + x % 128]), by dsimp only; omega, by simp, by simp, by simp, by simp, k6⟩ (by dsimp only; omega) (St.le_of ⟨⟨rfl, rfl, rfl, rfl, rfl⟩, rfl⟩)
                 · rw [show (128 * n + x % 128) / 40 = 1 by omega, show (128 * n + x % 128) % 40 = 128 * n + x % 128 - 40 by omega] at k6
                   repeat (first | refine nx ?_ | rw [hx2])
                   refine N_round ⟨(i + 1, 0, true, [] ++ [1, 128 * n + x % 128 - 40]), by dsimp only; omega, by simp, by simp, by simp, by simp, k6⟩ (by dsimp only; omega) (St.le_of ⟨⟨rfl, rfl, rfl, rfl, rfl⟩, rfl⟩)
               · rw [if_neg d1] at k6
                 repeat (first | refine nx ?_ | rw [hx2])
                 refine N_round ⟨(i + 1, 0, true, [] ++ [2, 128 * n + x % 128 - 80]), by dsimp only; omega, by simp, by simp, by simp, by simp, k6⟩ (by dsimp only; omega) (St.le_of ⟨⟨rfl, rfl, rfl, rfl, rfl⟩, rfl⟩)
             · rw [if_neg ho] at k6
               repeat (first | refine nx ?_ | rw [hx2])
               refine N_round ⟨(i + 1, 0, true, o ++ [128 * n + x % 128]), by dsimp only; omega, by simp, by simp, by simp, by simp; omega, k6⟩ (by dsimp only; omega) (St.le_of ⟨⟨rfl, rfl, rfl, rfl, rfl⟩, rfl⟩)
         · rw [if_neg c3] at k6
           by_cases hlast : i + 1 = l.length
           · rw [hlast, List.drop_length] at k6
             rw [show nxA [] l.length (128 * n + x % 128) false = (0, 6, l.length) from rfl, if_neg (by simp)] at k6
             simp only [Prod.mk.injEq] at k6
             obtain ⟨rfl, rfl⟩ := k6
             repeat (first | refine nx ?_ | rw [hx2])
             exact rtU []
           · have k7 : stA l (i + 1) (128 * n + x % 128) false o = (ro, re) := by
               unfold stA
               rw [if_pos (by omega)]
               exact k6
             repeat (first | refine nx ?_ | rw [hx2])
             refine N_round ⟨(i + 1, 128 * n + x % 128, false, o), by dsimp only; omega, by dsimp only; omega, by dsimp only; omega, by intro _; dsimp only; omega, by dsimp only; omega, k7⟩ (by dsimp only; omega) (St.le_of ⟨⟨rfl, rfl, rfl, rfl, rfl⟩, rfl⟩)
 · unfold stA at k6
   rw [if_neg hi] at k6
   simp only [Prod.mk.injEq] at k6
   obtain ⟨rfl, rfl⟩ := k6
   obtain rfl : i = l.length := by omega
   repeat refine nx ?_
   refine frzN 2 ?_
   exact rtU []

theorem roread_ok (l : List Int) (p : Nat) (hp : p ≤ l.length) (hl : l.length ≤ 1000000) (hw : WfB l) : Ct Tryz.prog 40 [B8 l, lv (.int .i64 (p : Int))] [] (.tup [I64 (oidR l p).1, lv (.int .i64 ((oidR l p).2.1 : Int)), lv (.int .i64 (oidR l p).2.2)]) [] [] := by
 have hof := refoft_ok 6
 have hop := refopen_ok l p (ofT 6) hp hl hw
 have hmem := openP_mem l p (ofT 6)
 unfold oidR
 generalize openP l p (ofT 6) = X at *
 obtain ⟨x, q, e⟩ := X
 dsimp only at *
 have hpa := roparse_ok x (by omega) (fun y hy => hw y (hmem.2 y hy))
 generalize oidP x = Y at *
 obtain ⟨o, f⟩ := Y
 dsimp only at *
 by_cases he : e = 0
 · subst he
   rw [if_pos rfl]
   by_cases hf : f = 0
   · subst hf
     rw [if_pos rfl]
     refine Ct_intro Tryz.func40 rfl rfl rfl rfl rfl (fun E hn hb => ?_)
     repeat refine nx ?_
     exact rtU []
   · rw [if_neg hf]
     refine Ct_intro Tryz.func40 rfl rfl rfl rfl rfl (fun E hn hb => ?_)
     repeat refine nx ?_
     exact rtU []
 · rw [if_neg he]
   refine Ct_intro Tryz.func40 rfl rfl rfl rfl rfl (fun E hn hb => ?_)
   repeat refine nx ?_
   exact rtU []
end Go.Proofs.YtaagjnlkinojcaaGreatDoor

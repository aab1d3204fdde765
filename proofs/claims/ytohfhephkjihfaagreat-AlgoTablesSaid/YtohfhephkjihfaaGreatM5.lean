/-
  Chapter 12: a hash told bytes. The conditions: bytes that are bytes, at most a million of them.
-/
import Derived.Test.YtohfhephkjihfaaGreatA12
namespace Go.Proofs.YtohfhephkjihfaaGreat
set_option linter.unusedSimpArgs false
set_option linter.unusedVariables false
open Go.Sx
set_option maxRecDepth 10000
def finS (v : V8) (x : List Int) : V8 := blocksF (x.length / 64) v x
def finL (x : List Int) : List Int := x.drop (64 * (x.length / 64))
theorem finS_step (v : V8) (x : List Int) (h : 64 ≤ x.length) : finS v x = finS (compS v (x.take 64)) (x.drop 64) := by
 obtain ⟨k, hk⟩ : ∃ k, x.length / 64 = k + 1 := ⟨x.length / 64 - 1, by omega⟩
 unfold finS
 rw [hk, List.length_drop, show (x.length - 64) / 64 = k by omega]
 simp only [blocksF]
 rw [if_neg (by omega)]
theorem finL_step (x : List Int) (h : 64 ≤ x.length) : finL x = finL (x.drop 64) := by
 unfold finL
 rw [List.length_drop, List.drop_drop]
 congr 1
 omega
theorem finS_done (v : V8) (x : List Int) (h : x.length < 64) : finS v x = v := by
 unfold finS
 rw [show x.length / 64 = 0 by omega]
 rfl
theorem finL_done (x : List Int) (h : x.length < 64) : finL x = x := by
 unfold finL
 rw [show x.length / 64 = 0 by omega]
 rfl
theorem fin_app : ∀ (k : Nat) (v : V8) (x y : List Int), x.length / 64 = k → finS v (x ++ y) = finS (finS v x) (finL x ++ y) ∧ finL (x ++ y) = finL (finL x ++ y)
 | 0, v, x, y, h => by
   have h1 : x.length < 64 := by omega
   rw [finS_done v x h1, finL_done x h1]
   exact ⟨rfl, rfl⟩
 | k + 1, v, x, y, h => by
   have h1 : 64 ≤ x.length := by omega
   have e1 : (x ++ y).take 64 = x.take 64 := by rw [List.take_append_of_le_length h1]
   have e2 : (x ++ y).drop 64 = x.drop 64 ++ y := by rw [List.drop_append_of_le_length h1]
   have := fin_app k (compS v (x.take 64)) (x.drop 64) y (by rw [List.length_drop]; omega)
   rw [finS_step v (x ++ y) (by simp; omega), finL_step (x ++ y) (by simp; omega), e1, e2, finS_step v x h1, finL_step x h1]
   exact this
theorem finS_ok : ∀ (k : Nat) (v : V8) (x : List Int), x.length / 64 = k → v.ok → (finS v x).ok
 | 0, v, x, h, hv => by rw [finS_done v x (by omega)]; exact hv
 | k + 1, v, x, h, hv => by
   rw [finS_step v x (by omega)]
   exact finS_ok k _ _ (by rw [List.length_drop]; omega) (compS_ok _ _)
theorem finL_wf {x : List Int} (h : WfB x) : WfB (finL x) := fun y hy => h y (List.mem_of_mem_drop hy)
theorem wf_app {x y : List Int} (h : WfB x) (k : WfB y) : WfB (x ++ y) := fun z hz => (List.mem_append.1 hz).elim (h z) (k z)
structure PJ where
 kb : Bool
 v : V8
 pre : List Int
 x : List Int
 i : Nat
abbrev partsA (bs : List (List Int)) : Av := .c (.lf (.recs 1 (bs.map fun b => [.ints .u8 b])))
set_option maxHeartbeats 8000000 in
theorem hput_ok (v : V8) (bg : Bool) (x : List Int) (n : Nat) (bs : List (List Int)) (hv : (cond bg v H0).ok) (hx : WfB x) (hbs : ∀ b ∈ bs, WfB b) (hxl : x.length < 64) (hbl : bs.length ≤ 1000) (hn1 : n + bs.flatten.length ≤ 1000000) :
   Ct Tryz.prog 41 [.c (.ptr 0 0), partsA bs] [.cells (hC v bg (.own 1 1 0 x.length) (n : Int)), .row (.ints .u8 x)] (.tup [])
     [.cells (hC (finS (cond bg v H0) (x ++ bs.flatten)) true (.own 2 1 0 (finL (x ++ bs.flatten)).length) ((n + bs.flatten.length : Nat) : Int)), .row (.ints .u8 [])] [.row (.ints .u8 (finL (x ++ bs.flatten)))] := by
 have hbegin := begin_ok v bg 0 x.length (n : Int) x
 obtain ⟨FS, hFS⟩ : ∃ FS, finS (cond bg v H0) (x ++ bs.flatten) = FS := ⟨_, rfl⟩
 obtain ⟨FL, hFL⟩ : ∃ FL, finL (x ++ bs.flatten) = FL := ⟨_, rfl⟩
 rw [hFS, hFL]
 generalize cond bg v H0 = v0 at *
 refine Ct_intro Tryz.func41 rfl rfl rfl rfl rfl (fun E hn hb => ?_)
 repeat (refine nst ?_)
 refine WL_q (opq_of (opy_nilP (neg := false) rfl rfl rfl rfl (by exact vcs)) rfl) (by rw [hn]; rfl) ?_
 repeat (refine nst ?_)
 refine W_cond rfl (by simp) (fun hc => ?_) (fun hc => ?_)
 · simp at hc
 repeat (refine nst ?_)
 refine s_call [0, 1] hbegin rfl rfl (by rw [hn]; rfl) rfl rfl (by trivial) ⟨rfl, ⟨rfl, rfl⟩, by simp [ordL], rfl⟩ ?_
 repeat (refine nst ?_)
 refine W_weaken (St.le_of (l := [(0, .c (.ptr 0 0)), (10, partsA bs), (11, lv (.int .i64 ((bs.map fun b => [Leaf.ints .u8 b]).length : Int))), (12, lv (.int .i64 0))]) (h := [(0, .cells (hC v0 true (.own 1 1 0 x.length) (n : Int))), (1, .row (.ints .u8 x))]) (by refine ⟨?_, ?_⟩ <;> (repeat' (first | exact trivial | exact rfl | refine ⟨?_, ?_⟩)) <;> first | exact rfl | (simp; done) | skip)) ?_
 rw [List.length_map]
 refine W_loop (ι := {p : PJ // p.i ≤ bs.length ∧ finS p.v (p.x ++ (bs.drop p.i).flatten) = FS ∧ finL (p.x ++ (bs.drop p.i).flatten) = FL ∧ p.v.ok ∧ WfB p.x ∧ WfB p.pre ∧ p.x.length < 64}) (fun p => match p.1.kb with | true => St.of [(0, .c (.ptr 0 0)), (10, partsA bs), (11, lv (.int .i64 (bs.length : Int))), (12, lv (.int .i64 (p.1.i : Int)))] [(0, .cells (hC p.1.v true (.own 1 1 (p.1.pre).length (p.1.x).length) ((n + (bs.take p.1.i).flatten.length : Nat) : Int))), (1, .row (.ints .u8 (p.1.pre ++ p.1.x)))] | false => St.of [(0, .c (.ptr 0 0)), (10, partsA bs), (11, lv (.int .i64 (bs.length : Int))), (12, lv (.int .i64 (p.1.i : Int)))] [(0, .cells (hC p.1.v true (.own 95 1 (p.1.pre).length (p.1.x).length) ((n + (bs.take p.1.i).flatten.length : Nat) : Int))), (1, .row (.ints .u8 [])), (95, .row (.ints .u8 (p.1.pre ++ p.1.x)))]) (fun p => bs.length - p.1.i) (fun p => ?_) ⟨⟨true, v0, [], x, 0⟩, by simp, by rw [← hFS]; rfl, by rw [← hFL]; rfl, hv, hx, (fun y hy => by cases hy), hxl⟩
 obtain ⟨⟨kb, v1, pre1, x1, i⟩, q0, q1, q2, q3, q4, q5, q6⟩ := p
 have hi : i ≤ bs.length := q0
 have hfs0 : finS v1 (x1 ++ (bs.drop i).flatten) = FS := q1
 have hfl0 : finL (x1 ++ (bs.drop i).flatten) = FL := q2
 have hv1 : v1.ok := q3
 have hx1 : WfB x1 := q4
 have hpre1 : WfB pre1 := q5
 have hx1l : x1.length < 64 := q6
 dsimp only
 clear q0 q1 q2 q3 q4 q5 q6
 have hend : i = bs.length → FS = v1 ∧ FL = x1 ∧ (bs.take i).flatten = bs.flatten := by
   intro h
   rw [List.drop_of_length_le (by omega)] at hfs0 hfl0
   simp only [List.flatten_nil, List.append_nil] at hfs0 hfl0
   rw [finS_done v1 x1 hx1l] at hfs0
   rw [finL_done x1 hx1l] at hfl0
   exact ⟨hfs0.symm, hfl0.symm, by rw [List.take_of_length_le (by omega)]⟩
 have hnext : ∀ h : i < bs.length, (bs.drop i).flatten = bs[i] ++ (bs.drop (i + 1)).flatten ∧ (bs.take (i + 1)).flatten.length = (bs.take i).flatten.length + bs[i].length ∧ (bs.take (i + 1)).flatten.length ≤ bs.flatten.length := by
   intro h
   refine ⟨by rw [List.drop_eq_getElem_cons h]; rfl, by rw [List.take_succ_eq_append_getElem h, List.flatten_append, List.length_append, List.flatten_cons, List.flatten_nil, List.append_nil], ?_⟩
   have := congrArg List.length (congrArg List.flatten (List.take_append_drop (i + 1) bs))
   simp only [List.flatten_append, List.length_append] at this
   omega
 have hidx : ∀ h : i < bs.length, (bs.map fun b => [Leaf.ints .u8 b]).getD (i : Int).toNat [] = [Leaf.ints .u8 bs[i]] := by
   intro h
   rw [Int.toNat_natCast, List.getD_eq_getElem?_getD, List.getElem?_map, List.getElem?_eq_getElem h]
   rfl
 cases kb
 · dsimp only
   repeat (refine nst ?_)
   refine W_cond rfl (by simp) (fun hc2 => ?_) (fun hc2 => ?_)
   · have hin : i < bs.length := by simpa using hc2
     obtain ⟨m1, m2, m3⟩ := hnext hin
     have hidx2 := hidx hin
     have hbi := hbs bs[i] (List.getElem_mem hin)
     rw [m1, ← List.append_assoc] at hfs0 hfl0
     generalize hbe : bs[i] = b at *
     generalize hRe : (bs.drop (i + 1)).flatten = R at *
     have eN : ((n + (bs.take i).flatten.length : Nat) : Int) + (b.length : Int) = ((n + (bs.take (i + 1)).flatten.length : Nat) : Int) := by omega
     have r1 : (pre1 ++ x1).take (pre1.length + x1.length) = pre1 ++ x1 := List.take_of_length_le (by simp)
     obtain ⟨x2, hx2e⟩ : ∃ x2, x1 ++ b = x2 := ⟨_, rfl⟩
     have hx2 : WfB x2 := by rw [← hx2e]; exact wf_app hx1 hbi
     have hx2l : x1.length + b.length = x2.length := by rw [← hx2e]; simp
     rw [hx2e] at hfs0 hfl0
     repeat (refine nst ?_)
     refine WL_q (opq_of (opy_indexR rfl Tryz.underlying45 rfl (by decide) rfl rfl (by exact vcs) (by first | (simp; done) | (simp; omega) | omega) (by first | (simp; done) | (simp; omega) | (simp at *; omega) | omega)) rfl) (by rw [hn]; rfl) ?_
     rw [hidx2]
     repeat (refine nst ?_)
     refine s_storeN rfl rfl rfl rfl rfl (by exact vcs) rfl rfl rfl (by rw [cellsOf3]; rfl) (by rw [info3]; rfl) rfl rfl ?_
     rw [eN]
     refine WL_nil ?_
     refine N_then ?_
     refine W_seq ?_
     refine W_joinF (ι := {p : Bool × List Int // WfB p.2}) (fun p => (fun p : Bool × List Int => match p.1 with | true => St.of [(0, .c (.ptr 0 0)), (10, partsA bs), (11, lv (.int .i64 (bs.length : Int))), (12, lv (.int .i64 (i : Int)))] [(0, .cells (hC v1 true (.own 1 1 (p.2).length (x2).length) ((n + (bs.take (i + 1)).flatten.length : Nat) : Int))), (1, .row (.ints .u8 (p.2 ++ x2)))] | false => St.of [(0, .c (.ptr 0 0)), (10, partsA bs), (11, lv (.int .i64 (bs.length : Int))), (12, lv (.int .i64 (i : Int)))] [(0, .cells (hC v1 true (.own 95 1 (p.2).length (x2).length) ((n + (bs.take (i + 1)).flatten.length : Nat) : Int))), (1, .row (.ints .u8 [])), (95, .row (.ints .u8 (p.2 ++ x2)))]) p.1) ?_ (fun p => ?_)
     · repeat (refine nst ?_)
       refine s_appendK 95 rfl rfl rfl rfl rfl (by rw [hn]; rfl) (elt_mk Tryz.underlying29 rfl rfl) rfl rfl rfl rfl ?_ (by simp) ⟨by omega, by decide⟩ ?_ ?_
       · trivial
       · repeat (refine nst ?_)
         refine s_storeN rfl rfl rfl rfl rfl (by exact vcs) rfl rfl rfl (by rw [cellsOf29]; rfl) (by rw [info29]; rfl) rfl rfl ?_
         repeat (refine nst ?_)
         rw [r1, List.append_assoc, hx2e, hx2l]
         exact N_joinF ⟨(false, pre1), hpre1⟩ (St.le_of ⟨⟨rfl, rfl, rfl, rfl⟩, ⟨rfl, rfl, rfl⟩⟩)
       · repeat (refine nst ?_)
         refine s_storeN rfl rfl rfl rfl rfl (by exact vcs) rfl rfl rfl (by rw [cellsOf29]; rfl) (by rw [info29]; rfl) rfl rfl ?_
         repeat (refine nst ?_)
         rw [r1, List.drop_left, hx2e, hx2l]
         exact N_joinF ⟨(false, []), fun y hy => by cases hy⟩ (St.le_of ⟨⟨rfl, rfl, rfl, rfl⟩, ⟨rfl, rfl, rfl⟩⟩)
     · obtain ⟨⟨kb2, pre1⟩, hpre⟩ := p
       cases kb2
       · dsimp only
         repeat (refine nst ?_)
         refine W_loop (ι := {p : PJ // finS p.v (p.x ++ R) = FS ∧ finL (p.x ++ R) = FL ∧ p.v.ok ∧ WfB p.x ∧ WfB p.pre}) (fun p => St.of [(0, .c (.ptr 0 0)), (10, partsA bs), (11, lv (.int .i64 (bs.length : Int))), (12, lv (.int .i64 (i : Int)))] [(0, .cells (hC p.1.v true (.own 95 1 (p.1.pre).length (p.1.x).length) ((n + (bs.take (i + 1)).flatten.length : Nat) : Int))), (1, .row (.ints .u8 [])), (95, .row (.ints .u8 (p.1.pre ++ p.1.x)))]) (fun p => p.1.x.length) (fun p => ?_) ⟨⟨true, v1, pre1, x2, 0⟩, hfs0, hfl0, hv1, hx2, hpre⟩
         obtain ⟨⟨_, v2, pre2, x3, _⟩, q1, q2, q3, q4, q5⟩ := p
         have hfs2 : finS v2 (x3 ++ R) = FS := q1
         have hfl2 : finL (x3 ++ R) = FL := q2
         have hv2 : v2.ok := q3
         have hx3 : WfB x3 := q4
         have hp3 : WfB pre2 := q5
         dsimp only
         clear q1 q2 q3 q4 q5
         repeat (refine nst ?_)
         refine W_cond rfl (by simp) (fun hc3 => ?_) (fun hc3 => ?_)
         · have h64 : 64 ≤ x3.length := by simp at hc3; omega
           have hbo := block_own v2 true pre2.length x3.length (((n + (bs.take (i + 1)).flatten.length : Nat) : Int)) (pre2 ++ x3) pre2.length hv2 (by simp; omega) (wf_app hp3 hx3)
           rw [List.drop_left] at hbo
           rw [finS_step v2 (x3 ++ R) (by simp; omega), List.take_append_of_le_length h64, List.drop_append_of_le_length h64] at hfs2
           rw [finL_step (x3 ++ R) (by simp; omega), List.drop_append_of_le_length h64] at hfl2
           have hv3 := compS_ok v2 (x3.take 64)
           generalize compS v2 (x3.take 64) = v3 at *
           repeat (refine nst ?_)
           refine W_drawW 8 (by kernel_rfl) (by kernel_rfl) (by kernel_rfl) (by rw [hn]; rfl) rfl rfl ?_
           repeat (first | refine dp1 ?_ | refine dg1 ?_ | refine DrawW_nil ?_)
           repeat (refine nst ?_)
           refine s_call [0, 95] hbo rfl rfl (by rw [hn]; rfl) rfl rfl (by trivial) ⟨rfl, ⟨rfl, rfl⟩, by simp [ordL], rfl⟩ ?_
           repeat (refine nst ?_)
           refine s_storeN rfl rfl rfl rfl rfl (by exact vcs) rfl rfl rfl (by rw [cellsOf29]; rfl) (by rw [info29]; rfl) rfl rfl ?_
           repeat (refine nst ?_)
           have e1 : pre2.length + 64 = (pre2 ++ x3.take 64).length := by simp; omega
           have e2 : x3.length - 64 = (x3.drop 64).length := by simp
           have e3 : pre2 ++ x3 = (pre2 ++ x3.take 64) ++ x3.drop 64 := by rw [List.append_assoc, List.take_append_drop]
           refine N_round ⟨⟨true, v3, pre2 ++ x3.take 64, x3.drop 64, 0⟩, hfs2, hfl2, hv3, fun y hy => hx3 y (List.mem_of_mem_drop hy), wf_app hp3 fun y hy => hx3 y (List.mem_of_mem_take hy)⟩ (by dsimp only; simp; omega) (St.le_of ⟨⟨rfl, rfl, rfl, rfl⟩, ⟨?_, rfl, ?_⟩⟩)
           · dsimp only
             rw [← e1, ← e2]
             rfl
           · dsimp only
             rw [← e3]
             rfl
         · have h64 : x3.length < 64 := by simp at hc3; omega
           repeat (refine nst ?_)
           refine N_round ⟨⟨false, v2, pre2, x3, i + 1⟩, by dsimp only; omega, by dsimp only; rw [hRe]; exact hfs2, by dsimp only; rw [hRe]; exact hfl2, hv2, hx3, hp3, h64⟩ (by dsimp only; omega) (St.le_of ⟨⟨rfl, rfl, rfl, rfl⟩, ⟨rfl, rfl, rfl⟩⟩)
       · dsimp only
         repeat (refine nst ?_)
         refine W_loop (ι := {p : PJ // finS p.v (p.x ++ R) = FS ∧ finL (p.x ++ R) = FL ∧ p.v.ok ∧ WfB p.x ∧ WfB p.pre}) (fun p => St.of [(0, .c (.ptr 0 0)), (10, partsA bs), (11, lv (.int .i64 (bs.length : Int))), (12, lv (.int .i64 (i : Int)))] [(0, .cells (hC p.1.v true (.own 1 1 (p.1.pre).length (p.1.x).length) ((n + (bs.take (i + 1)).flatten.length : Nat) : Int))), (1, .row (.ints .u8 (p.1.pre ++ p.1.x)))]) (fun p => p.1.x.length) (fun p => ?_) ⟨⟨true, v1, pre1, x2, 0⟩, hfs0, hfl0, hv1, hx2, hpre⟩
         obtain ⟨⟨_, v2, pre2, x3, _⟩, q1, q2, q3, q4, q5⟩ := p
         have hfs2 : finS v2 (x3 ++ R) = FS := q1
         have hfl2 : finL (x3 ++ R) = FL := q2
         have hv2 : v2.ok := q3
         have hx3 : WfB x3 := q4
         have hp3 : WfB pre2 := q5
         dsimp only
         clear q1 q2 q3 q4 q5
         repeat (refine nst ?_)
         refine W_cond rfl (by simp) (fun hc3 => ?_) (fun hc3 => ?_)
         · have h64 : 64 ≤ x3.length := by simp at hc3; omega
           have hbo := block_own v2 true pre2.length x3.length (((n + (bs.take (i + 1)).flatten.length : Nat) : Int)) (pre2 ++ x3) pre2.length hv2 (by simp; omega) (wf_app hp3 hx3)
           rw [List.drop_left] at hbo
           rw [finS_step v2 (x3 ++ R) (by simp; omega), List.take_append_of_le_length h64, List.drop_append_of_le_length h64] at hfs2
           rw [finL_step (x3 ++ R) (by simp; omega), List.drop_append_of_le_length h64] at hfl2
           have hv3 := compS_ok v2 (x3.take 64)
           generalize compS v2 (x3.take 64) = v3 at *
           repeat (refine nst ?_)
           refine W_drawW 8 (by kernel_rfl) (by kernel_rfl) (by kernel_rfl) (by rw [hn]; rfl) rfl rfl ?_
           repeat (first | refine dp1 ?_ | refine dg1 ?_ | refine DrawW_nil ?_)
           repeat (refine nst ?_)
           refine s_call [0, 1] hbo rfl rfl (by rw [hn]; rfl) rfl rfl (by trivial) ⟨rfl, ⟨rfl, rfl⟩, by simp [ordL], rfl⟩ ?_
           repeat (refine nst ?_)
           refine s_storeN rfl rfl rfl rfl rfl (by exact vcs) rfl rfl rfl (by rw [cellsOf29]; rfl) (by rw [info29]; rfl) rfl rfl ?_
           repeat (refine nst ?_)
           have e1 : pre2.length + 64 = (pre2 ++ x3.take 64).length := by simp; omega
           have e2 : x3.length - 64 = (x3.drop 64).length := by simp
           have e3 : pre2 ++ x3 = (pre2 ++ x3.take 64) ++ x3.drop 64 := by rw [List.append_assoc, List.take_append_drop]
           refine N_round ⟨⟨true, v3, pre2 ++ x3.take 64, x3.drop 64, 0⟩, hfs2, hfl2, hv3, fun y hy => hx3 y (List.mem_of_mem_drop hy), wf_app hp3 fun y hy => hx3 y (List.mem_of_mem_take hy)⟩ (by dsimp only; simp; omega) (St.le_of ⟨⟨rfl, rfl, rfl, rfl⟩, ⟨?_, ?_⟩⟩)
           · dsimp only
             rw [← e1, ← e2]
             rfl
           · dsimp only
             rw [← e3]
             rfl
         · have h64 : x3.length < 64 := by simp at hc3; omega
           repeat (refine nst ?_)
           refine N_round ⟨⟨true, v2, pre2, x3, i + 1⟩, by dsimp only; omega, by dsimp only; rw [hRe]; exact hfs2, by dsimp only; rw [hRe]; exact hfl2, hv2, hx3, hp3, h64⟩ (by dsimp only; omega) (St.le_of ⟨⟨rfl, rfl, rfl, rfl⟩, ⟨rfl, rfl⟩⟩)
   · obtain ⟨rfl, rfl, e9⟩ := hend (by simp at hc2; omega)
     have hcl := cloneO_ok (pre1 ++ FL) pre1.length FL.length (by simp) (by omega)
     rw [List.drop_left, List.take_length] at hcl
     rw [e9]
     repeat (refine nst ?_)
     refine s_call [95] hcl rfl rfl (by rw [hn]; rfl) rfl rfl (by trivial) ⟨rfl, rfl, by simp [ordL], rfl⟩ ?_
     repeat (refine nst ?_)
     refine s_storeN rfl rfl rfl rfl rfl (by exact vcs) rfl rfl rfl (by rw [cellsOf29]; rfl) (by rw [info29]; rfl) rfl rfl ?_
     repeat (refine nst ?_)
     refine N_sr (fun a w h => h.shrink 1 0 rfl rfl) ?_
     refine rt2 [127] ?_ ?_
     · rfl
     · exact rfl
 · dsimp only
   repeat (refine nst ?_)
   refine W_cond rfl (by simp) (fun hc2 => ?_) (fun hc2 => ?_)
   · have hin : i < bs.length := by simpa using hc2
     obtain ⟨m1, m2, m3⟩ := hnext hin
     have hidx2 := hidx hin
     have hbi := hbs bs[i] (List.getElem_mem hin)
     rw [m1, ← List.append_assoc] at hfs0 hfl0
     generalize hbe : bs[i] = b at *
     generalize hRe : (bs.drop (i + 1)).flatten = R at *
     have eN : ((n + (bs.take i).flatten.length : Nat) : Int) + (b.length : Int) = ((n + (bs.take (i + 1)).flatten.length : Nat) : Int) := by omega
     have r1 : (pre1 ++ x1).take (pre1.length + x1.length) = pre1 ++ x1 := List.take_of_length_le (by simp)
     obtain ⟨x2, hx2e⟩ : ∃ x2, x1 ++ b = x2 := ⟨_, rfl⟩
     have hx2 : WfB x2 := by rw [← hx2e]; exact wf_app hx1 hbi
     have hx2l : x1.length + b.length = x2.length := by rw [← hx2e]; simp
     rw [hx2e] at hfs0 hfl0
     repeat (refine nst ?_)
     refine WL_q (opq_of (opy_indexR rfl Tryz.underlying45 rfl (by decide) rfl rfl (by exact vcs) (by first | (simp; done) | (simp; omega) | omega) (by first | (simp; done) | (simp; omega) | (simp at *; omega) | omega)) rfl) (by rw [hn]; rfl) ?_
     rw [hidx2]
     repeat (refine nst ?_)
     refine s_storeN rfl rfl rfl rfl rfl (by exact vcs) rfl rfl rfl (by rw [cellsOf3]; rfl) (by rw [info3]; rfl) rfl rfl ?_
     rw [eN]
     refine WL_nil ?_
     refine N_then ?_
     refine W_seq ?_
     refine W_joinF (ι := {p : Bool × List Int // WfB p.2}) (fun p => (fun p : Bool × List Int => match p.1 with | true => St.of [(0, .c (.ptr 0 0)), (10, partsA bs), (11, lv (.int .i64 (bs.length : Int))), (12, lv (.int .i64 (i : Int)))] [(0, .cells (hC v1 true (.own 1 1 (p.2).length (x2).length) ((n + (bs.take (i + 1)).flatten.length : Nat) : Int))), (1, .row (.ints .u8 (p.2 ++ x2)))] | false => St.of [(0, .c (.ptr 0 0)), (10, partsA bs), (11, lv (.int .i64 (bs.length : Int))), (12, lv (.int .i64 (i : Int)))] [(0, .cells (hC v1 true (.own 95 1 (p.2).length (x2).length) ((n + (bs.take (i + 1)).flatten.length : Nat) : Int))), (1, .row (.ints .u8 [])), (95, .row (.ints .u8 (p.2 ++ x2)))]) p.1) ?_ (fun p => ?_)
     · repeat (refine nst ?_)
       refine s_appendK 95 rfl rfl rfl rfl rfl (by rw [hn]; rfl) (elt_mk Tryz.underlying29 rfl rfl) rfl rfl rfl rfl ?_ (by simp) ⟨by omega, by decide⟩ ?_ ?_
       · trivial
       · repeat (refine nst ?_)
         refine s_storeN rfl rfl rfl rfl rfl (by exact vcs) rfl rfl rfl (by rw [cellsOf29]; rfl) (by rw [info29]; rfl) rfl rfl ?_
         repeat (refine nst ?_)
         rw [r1, List.append_assoc, hx2e, hx2l]
         exact N_joinF ⟨(true, pre1), hpre1⟩ (St.le_of ⟨⟨rfl, rfl, rfl, rfl⟩, ⟨rfl, rfl⟩⟩)
       · repeat (refine nst ?_)
         refine s_storeN rfl rfl rfl rfl rfl (by exact vcs) rfl rfl rfl (by rw [cellsOf29]; rfl) (by rw [info29]; rfl) rfl rfl ?_
         repeat (refine nst ?_)
         rw [r1, List.drop_left, hx2e, hx2l]
         refine N_sr (fun a w h => h.shrink (l' := []) 1 0 rfl rfl) ?_
         exact N_joinF ⟨(false, []), fun y hy => by cases hy⟩ (St.le_of ⟨⟨rfl, rfl, rfl, rfl⟩, ⟨rfl, rfl, rfl⟩⟩)
     · obtain ⟨⟨kb2, pre1⟩, hpre⟩ := p
       cases kb2
       · dsimp only
         repeat (refine nst ?_)
         refine W_loop (ι := {p : PJ // finS p.v (p.x ++ R) = FS ∧ finL (p.x ++ R) = FL ∧ p.v.ok ∧ WfB p.x ∧ WfB p.pre}) (fun p => St.of [(0, .c (.ptr 0 0)), (10, partsA bs), (11, lv (.int .i64 (bs.length : Int))), (12, lv (.int .i64 (i : Int)))] [(0, .cells (hC p.1.v true (.own 95 1 (p.1.pre).length (p.1.x).length) ((n + (bs.take (i + 1)).flatten.length : Nat) : Int))), (1, .row (.ints .u8 [])), (95, .row (.ints .u8 (p.1.pre ++ p.1.x)))]) (fun p => p.1.x.length) (fun p => ?_) ⟨⟨true, v1, pre1, x2, 0⟩, hfs0, hfl0, hv1, hx2, hpre⟩
         obtain ⟨⟨_, v2, pre2, x3, _⟩, q1, q2, q3, q4, q5⟩ := p
         have hfs2 : finS v2 (x3 ++ R) = FS := q1
         have hfl2 : finL (x3 ++ R) = FL := q2
         have hv2 : v2.ok := q3
         have hx3 : WfB x3 := q4
         have hp3 : WfB pre2 := q5
         dsimp only
         clear q1 q2 q3 q4 q5
         repeat (refine nst ?_)
         refine W_cond rfl (by simp) (fun hc3 => ?_) (fun hc3 => ?_)
         · have h64 : 64 ≤ x3.length := by simp at hc3; omega
           have hbo := block_own v2 true pre2.length x3.length (((n + (bs.take (i + 1)).flatten.length : Nat) : Int)) (pre2 ++ x3) pre2.length hv2 (by simp; omega) (wf_app hp3 hx3)
           rw [List.drop_left] at hbo
           rw [finS_step v2 (x3 ++ R) (by simp; omega), List.take_append_of_le_length h64, List.drop_append_of_le_length h64] at hfs2
           rw [finL_step (x3 ++ R) (by simp; omega), List.drop_append_of_le_length h64] at hfl2
           have hv3 := compS_ok v2 (x3.take 64)
           generalize compS v2 (x3.take 64) = v3 at *
           repeat (refine nst ?_)
           refine W_drawW 8 (by kernel_rfl) (by kernel_rfl) (by kernel_rfl) (by rw [hn]; rfl) rfl rfl ?_
           repeat (first | refine dp1 ?_ | refine dg1 ?_ | refine DrawW_nil ?_)
           repeat (refine nst ?_)
           refine s_call [0, 95] hbo rfl rfl (by rw [hn]; rfl) rfl rfl (by trivial) ⟨rfl, ⟨rfl, rfl⟩, by simp [ordL], rfl⟩ ?_
           repeat (refine nst ?_)
           refine s_storeN rfl rfl rfl rfl rfl (by exact vcs) rfl rfl rfl (by rw [cellsOf29]; rfl) (by rw [info29]; rfl) rfl rfl ?_
           repeat (refine nst ?_)
           have e1 : pre2.length + 64 = (pre2 ++ x3.take 64).length := by simp; omega
           have e2 : x3.length - 64 = (x3.drop 64).length := by simp
           have e3 : pre2 ++ x3 = (pre2 ++ x3.take 64) ++ x3.drop 64 := by rw [List.append_assoc, List.take_append_drop]
           refine N_round ⟨⟨true, v3, pre2 ++ x3.take 64, x3.drop 64, 0⟩, hfs2, hfl2, hv3, fun y hy => hx3 y (List.mem_of_mem_drop hy), wf_app hp3 fun y hy => hx3 y (List.mem_of_mem_take hy)⟩ (by dsimp only; simp; omega) (St.le_of ⟨⟨rfl, rfl, rfl, rfl⟩, ⟨?_, rfl, ?_⟩⟩)
           · dsimp only
             rw [← e1, ← e2]
             rfl
           · dsimp only
             rw [← e3]
             rfl
         · have h64 : x3.length < 64 := by simp at hc3; omega
           repeat (refine nst ?_)
           refine N_round ⟨⟨false, v2, pre2, x3, i + 1⟩, by dsimp only; omega, by dsimp only; rw [hRe]; exact hfs2, by dsimp only; rw [hRe]; exact hfl2, hv2, hx3, hp3, h64⟩ (by dsimp only; omega) (St.le_of ⟨⟨rfl, rfl, rfl, rfl⟩, ⟨rfl, rfl, rfl⟩⟩)
       · dsimp only
         repeat (refine nst ?_)
         refine W_loop (ι := {p : PJ // finS p.v (p.x ++ R) = FS ∧ finL (p.x ++ R) = FL ∧ p.v.ok ∧ WfB p.x ∧ WfB p.pre}) (fun p => St.of [(0, .c (.ptr 0 0)), (10, partsA bs), (11, lv (.int .i64 (bs.length : Int))), (12, lv (.int .i64 (i : Int)))] [(0, .cells (hC p.1.v true (.own 1 1 (p.1.pre).length (p.1.x).length) ((n + (bs.take (i + 1)).flatten.length : Nat) : Int))), (1, .row (.ints .u8 (p.1.pre ++ p.1.x)))]) (fun p => p.1.x.length) (fun p => ?_) ⟨⟨true, v1, pre1, x2, 0⟩, hfs0, hfl0, hv1, hx2, hpre⟩
         obtain ⟨⟨_, v2, pre2, x3, _⟩, q1, q2, q3, q4, q5⟩ := p
         have hfs2 : finS v2 (x3 ++ R) = FS := q1
         have hfl2 : finL (x3 ++ R) = FL := q2
         have hv2 : v2.ok := q3
         have hx3 : WfB x3 := q4
         have hp3 : WfB pre2 := q5
         dsimp only
         clear q1 q2 q3 q4 q5
         repeat (refine nst ?_)
         refine W_cond rfl (by simp) (fun hc3 => ?_) (fun hc3 => ?_)
         · have h64 : 64 ≤ x3.length := by simp at hc3; omega
           have hbo := block_own v2 true pre2.length x3.length (((n + (bs.take (i + 1)).flatten.length : Nat) : Int)) (pre2 ++ x3) pre2.length hv2 (by simp; omega) (wf_app hp3 hx3)
           rw [List.drop_left] at hbo
           rw [finS_step v2 (x3 ++ R) (by simp; omega), List.take_append_of_le_length h64, List.drop_append_of_le_length h64] at hfs2
           rw [finL_step (x3 ++ R) (by simp; omega), List.drop_append_of_le_length h64] at hfl2
           have hv3 := compS_ok v2 (x3.take 64)
           generalize compS v2 (x3.take 64) = v3 at *
           repeat (refine nst ?_)
           refine W_drawW 8 (by kernel_rfl) (by kernel_rfl) (by kernel_rfl) (by rw [hn]; rfl) rfl rfl ?_
           repeat (first | refine dp1 ?_ | refine dg1 ?_ | refine DrawW_nil ?_)
           repeat (refine nst ?_)
           refine s_call [0, 1] hbo rfl rfl (by rw [hn]; rfl) rfl rfl (by trivial) ⟨rfl, ⟨rfl, rfl⟩, by simp [ordL], rfl⟩ ?_
           repeat (refine nst ?_)
           refine s_storeN rfl rfl rfl rfl rfl (by exact vcs) rfl rfl rfl (by rw [cellsOf29]; rfl) (by rw [info29]; rfl) rfl rfl ?_
           repeat (refine nst ?_)
           have e1 : pre2.length + 64 = (pre2 ++ x3.take 64).length := by simp; omega
           have e2 : x3.length - 64 = (x3.drop 64).length := by simp
           have e3 : pre2 ++ x3 = (pre2 ++ x3.take 64) ++ x3.drop 64 := by rw [List.append_assoc, List.take_append_drop]
           refine N_round ⟨⟨true, v3, pre2 ++ x3.take 64, x3.drop 64, 0⟩, hfs2, hfl2, hv3, fun y hy => hx3 y (List.mem_of_mem_drop hy), wf_app hp3 fun y hy => hx3 y (List.mem_of_mem_take hy)⟩ (by dsimp only; simp; omega) (St.le_of ⟨⟨rfl, rfl, rfl, rfl⟩, ⟨?_, ?_⟩⟩)
           · dsimp only
             rw [← e1, ← e2]
             rfl
           · dsimp only
             rw [← e3]
             rfl
         · have h64 : x3.length < 64 := by simp at hc3; omega
           repeat (refine nst ?_)
           refine N_round ⟨⟨true, v2, pre2, x3, i + 1⟩, by dsimp only; omega, by dsimp only; rw [hRe]; exact hfs2, by dsimp only; rw [hRe]; exact hfl2, hv2, hx3, hp3, h64⟩ (by dsimp only; omega) (St.le_of ⟨⟨rfl, rfl, rfl, rfl⟩, ⟨rfl, rfl⟩⟩)
   · obtain ⟨rfl, rfl, e9⟩ := hend (by simp at hc2; omega)
     have hcl := cloneO_ok (pre1 ++ FL) pre1.length FL.length (by simp) (by omega)
     rw [List.drop_left, List.take_length] at hcl
     rw [e9]
     repeat (refine nst ?_)
     refine s_call [1] hcl rfl rfl (by rw [hn]; rfl) rfl rfl (by trivial) ⟨rfl, rfl, by simp [ordL], rfl⟩ ?_
     repeat (refine nst ?_)
     refine s_storeN rfl rfl rfl rfl rfl (by exact vcs) rfl rfl rfl (by rw [cellsOf29]; rfl) (by rw [info29]; rfl) rfl rfl ?_
     repeat (refine nst ?_)
     refine N_sr (fun a w h => h.shrink 1 0 rfl rfl) ?_
     refine rt2 [127] ?_ ?_
     · rfl
     · exact rfl
end Go.Proofs.YtohfhephkjihfaaGreat

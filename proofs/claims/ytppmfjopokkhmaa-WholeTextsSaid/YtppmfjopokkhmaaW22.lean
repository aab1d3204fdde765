/-
  Chapter 03: a number's text, the document's way. The conditions: rows of at most two hundred bytes.
-/
import Derived.Test.YtppmfjopokkhmaaW21
namespace Go.Proofs.Ytppmfjopokkhmaa
set_option linter.unusedSimpArgs false
set_option linter.unusedVariables false
open Go.Sx

set_option maxRecDepth 10000

theorem mulC_snoc : ∀ (a : List Int) (c x : Int), mulC (a ++ [x]) c = ((mulC a c).1 ++ [(256 * x + (mulC a c).2) % 10], (256 * x + (mulC a c).2) / 10)
  | [], c, x => rfl
  | y :: a, c, x => by simp only [List.cons_append, mulC, mulC_snoc a]
theorem mulC_len : ∀ (a : List Int) (c : Int), (mulC a c).1.length = a.length
  | [], _ => rfl
  | y :: a, c => by simp [mulC, mulC_len a]
theorem mulC_low : ∀ (a : List Int) (c : Int), (∀ x ∈ a, 0 ≤ x ∧ x < 10) → 0 ≤ c ∧ c < 256 → 0 ≤ (mulC a c).2 ∧ (mulC a c).2 < 256
  | [], c, _, h => h
  | y :: a, c, ha, h => by
    have hy := ha y (List.mem_cons_self ..)
    exact mulC_low a _ (fun x hx => ha x (List.mem_cons_of_mem _ hx)) (by omega)
def dOf (v : Nat) : List Int := if v = 0 then [0] else decD v
theorem dOf_wf (v : Nat) : ∀ x ∈ dOf v, 0 ≤ x ∧ x < 10 := by
  unfold dOf
  split
  · intro x hx; simp at hx; subst hx; omega
  · exact decD_wf v v (Nat.le_refl _)
theorem dOf_mul (v c : Nat) (h : v ≠ 0 ∨ c ≠ 0) : (mulC (dOf v) c).1 ++ decD (mulC (dOf v) c).2.toNat = dOf (256 * v + c) := by
  unfold dOf
  rw [if_neg (show 256 * v + c ≠ 0 by omega)]
  by_cases hv : v = 0
  · subst hv
    have hc : c ≠ 0 := by omega
    rw [if_pos rfl, decD_pos (show 256 * 0 + c ≠ 0 by omega)]
    simp only [mulC, List.cons_append, List.nil_append]
    have e1 : (256 * (0 : Int) + (c : Int)) / 10 = ((c / 10 : Nat) : Int) := by omega
    have e2 : (256 * (0 : Int) + (c : Int)) % 10 = (((256 * 0 + c) % 10 : Nat) : Int) := by omega
    have e3 : (256 * 0 + c) / 10 = c / 10 := by omega
    rw [e1, e2, e3]; rfl
  · rw [if_neg hv, mul_dec v v c (Nat.le_refl _)]

structure PushI (T : List Int) where
  c : Nat
  out : List Int
  ev : out ++ decD c = T

theorem reftext_ok (b : Bool) (l : List Int) (hl : l.length ≤ 200) (hw : WfB l) : Ct Try.prog 35 [numA b l] [] (lv (.string (strOfNums (textL (madeB b l) (trimL l))))) [] [] := by
  have ht := len_trim l
  have hws := wf_trim hw
  have htt := trim_idem l
  refine Ct_intro Try.func35 rfl rfl rfl rfl rfl (fun E hn hb => ?_)
  repeat (first | refine W_seq ?_ | refine W_region ?_ | refine W_block ?_ | refine W_skip ?_ | refine W_ret ?_ | refine W_exit ?_ | refine WL_nil ?_ | refine N_then ?_ | refine N_then_exit ?_ | refine N_then_ret ?_ | refine N_block ?_ | refine N_block_ret ?_ | refine N_block_exit ?_ | refine N_block_pass rfl ?_ | refine sp true rfl rfl (by rw [hn]; rfl) (by first | trivial | (simp; done) | (simp; omega) | (simp at *; done) | (simp at *; omega)) ?_ | refine sg true rfl rfl rfl (by rw [hn]; rfl) (by intro hG; first | trivial | (simp; done) | (simp; omega) | (simp at *; done) | (simp at *; omega)) ?_)
  refine s_boxN rfl rfl rfl (by rw [hn]; rfl) rfl (by first | trivial | (simp; done) | (simp; omega) | (simp at *; done) | (simp at *; omega)) rfl rfl ?_
  repeat (first | refine W_seq ?_ | refine W_region ?_ | refine W_block ?_ | refine W_skip ?_ | refine W_ret ?_ | refine W_exit ?_ | refine WL_nil ?_ | refine N_then ?_ | refine N_then_exit ?_ | refine N_then_ret ?_ | refine N_block ?_ | refine N_block_ret ?_ | refine N_block_exit ?_ | refine N_block_pass rfl ?_ | refine sp true rfl rfl (by rw [hn]; rfl) (by first | trivial | (simp; done) | (simp; omega) | (simp at *; done) | (simp at *; omega)) ?_ | refine sg true rfl rfl rfl (by rw [hn]; rfl) (by intro hG; first | trivial | (simp; done) | (simp; omega) | (simp at *; done) | (simp at *; omega)) ?_)
  refine s_call0 (refmade_ok b l (by omega)) rfl rfl rfl (by rw [hn]; rfl) rfl rfl (by first | trivial | (simp; done) | (simp; omega) | (simp at *; done) | (simp at *; omega)) rfl rfl rfl ?_
  refine s_storeN rfl rfl rfl rfl rfl (by first | trivial | (simp; done) | (simp; omega) | (simp at *; done) | (simp at *; omega)) rfl rfl rfl (by rw [cellsOf24]; rfl) (by rw [info24]; rfl) rfl rfl ?_
  repeat (first | refine W_seq ?_ | refine W_region ?_ | refine W_block ?_ | refine W_skip ?_ | refine W_ret ?_ | refine W_exit ?_ | refine WL_nil ?_ | refine N_then ?_ | refine N_then_exit ?_ | refine N_then_ret ?_ | refine N_block ?_ | refine N_block_ret ?_ | refine N_block_exit ?_ | refine N_block_pass rfl ?_ | refine sp true rfl rfl (by rw [hn]; rfl) (by first | trivial | (simp; done) | (simp; omega) | (simp at *; done) | (simp at *; omega)) ?_ | refine sg true rfl rfl rfl (by rw [hn]; rfl) (by intro hG; first | trivial | (simp; done) | (simp; omega) | (simp at *; done) | (simp at *; omega)) ?_)
  generalize hs : trimL l = s at *
  generalize hbe : madeB b l = be at *
  refine s_litI rfl rfl rfl (by rw [hn]; rfl) (elt_mk Try.underlying60 rfl rfl) (zok3) (by first | trivial | (simp; done) | (simp; omega) | (simp at *; done) | (simp at *; omega)) ⟨by decide, rfl⟩ ?_
  repeat (first | refine W_seq ?_ | refine W_region ?_ | refine W_block ?_ | refine W_skip ?_ | refine W_ret ?_ | refine W_exit ?_ | refine WL_nil ?_ | refine N_then ?_ | refine N_then_exit ?_ | refine N_then_ret ?_ | refine N_block ?_ | refine N_block_ret ?_ | refine N_block_exit ?_ | refine N_block_pass rfl ?_ | refine sp true rfl rfl (by rw [hn]; rfl) (by first | trivial | (simp; done) | (simp; omega) | (simp at *; done) | (simp at *; omega)) ?_ | refine sg true rfl rfl rfl (by rw [hn]; rfl) (by intro hG; first | trivial | (simp; done) | (simp; omega) | (simp at *; done) | (simp at *; omega)) ?_)
  have e0 : dOf (valA 0 (s.take 0)).toNat = [0] := rfl
  refine W_weaken (St.le_of (l := [(1, .c (.ptr 65 0)), (3, .c (.own 76 1 0 1)), (4, lv (.int .i64 0))]) (h := [(65, .cells [.lf (.v (.bool be)), .lf (.ints .u8 s)]), (76, .row (.ints .i64 [0]))]) (by refine ⟨?_, ?_⟩ <;> (repeat' (first | exact trivial | exact rfl | refine ⟨?_, ?_⟩)) <;> first | exact rfl | (simp; done) | skip)) ?_
  refine W_weaken (τ := St.of [(1, .c (.ptr 65 0)), (3, .c (.own 76 1 0 (dOf (valA 0 (s.take 0)).toNat).length)), (4, lv (.int .i64 ((0 : Nat) : Int)))] [(65, .cells [.lf (.v (.bool be)), .lf (.ints .u8 s)]), (76, .row (.ints .i64 (dOf (valA 0 (s.take 0)).toNat)))]) ?_ ?_
  · rw [e0]; exact ⟨fun _ => .inl rfl, fun _ => .inl rfl⟩
  refine W_loop (ι := {i : Nat // i ≤ s.length}) (fun i => St.of [(1, .c (.ptr 65 0)), (3, .c (.own 76 1 0 (dOf (valA 0 (s.take i.1)).toNat).length)), (4, lv (.int .i64 (i.1 : Int)))] [(65, .cells [.lf (.v (.bool be)), .lf (.ints .u8 s)]), (76, .row (.ints .i64 (dOf (valA 0 (s.take i.1)).toNat)))]) (fun i => s.length - i.1) (fun i => ?_) ⟨0, by omega⟩
  obtain ⟨i, hi⟩ := i
  dsimp only
  have hdL : ∀ v : Nat, (dOf v).length ≤ (decL v).length + 1 := by
    intro v
    unfold dOf
    split
    · simp
    · rw [decL_D v v (Nat.le_refl _)]; simp
  have hwt : WfB (s.take i) := wf_take hws i
  have hv0 := val_nonneg (s.take i) 0 (by decide) hwt
  have hl1 := dec_len (s.take i) hwt
  have hl2 := hdL (valA 0 (s.take i)).toNat
  have hl3 : (dOf (valA 0 (s.take i)).toNat).length ≤ 601 := by simp at hl1; omega
  repeat (first | refine W_seq ?_ | refine W_region ?_ | refine W_block ?_ | refine W_skip ?_ | refine W_ret ?_ | refine W_exit ?_ | refine WL_nil ?_ | refine N_then ?_ | refine N_then_exit ?_ | refine N_then_ret ?_ | refine N_block ?_ | refine N_block_ret ?_ | refine N_block_exit ?_ | refine N_block_pass rfl ?_ | refine sp true rfl rfl (by rw [hn]; rfl) (by first | trivial | (simp; done) | (simp; omega) | (simp at *; done) | (simp at *; omega)) ?_ | refine sg true rfl rfl rfl (by rw [hn]; rfl) (by intro hG; first | trivial | (simp; done) | (simp; omega) | (simp at *; done) | (simp at *; omega)) ?_)
  refine W_cond rfl (by simp) (fun hq => ?_) (fun hq => ?_)
  · have hi8 : i < s.length := by simp at hq; omega
    have hx := hws s[i] (List.getElem_mem hi8)
    have hg : s.getD (i : Int).toNat 0 = s[i] := by simp [hi8]
    have hT : s.take (i + 1) = s.take i ++ [s[i]] := by rw [List.take_add_one, List.getElem?_eq_getElem hi8]; rfl
    have hvs := val_snoc (s.take i) s[i]
    rw [← hT] at hvs
    have hwt' : WfB (s.take (i + 1)) := wf_take hws (i + 1)
    have hl1' := dec_len (s.take (i + 1)) hwt'
    have hl2' := hdL (valA 0 (s.take (i + 1))).toNat
    have hl3' : (dOf (valA 0 (s.take (i + 1))).toNat).length ≤ 601 := by simp at hl1'; omega
    have hnz : (valA 0 (s.take i)).toNat ≠ 0 ∨ s[i].toNat ≠ 0 := by
      cases i with
      | zero =>
        right
        cases s with
        | nil => simp at hi8
        | cons x t =>
          have hx0 : x ≠ 0 := by
            rintro rfl
            have e1 : trimL (0 :: t) = trimL t := by simp [trimL]
            have := len_trim t
            rw [← e1, htt] at this
            simp at this
            omega
          simp only [List.getElem_cons_zero] at hx ⊢
          omega
      | succ i =>
        left
        have h1 := val_take_le (s.take (i + 1)) 1 hwt
        have h2 : (s.take (i + 1)).take 1 = s.take 1 := by rw [List.take_take, show min 1 (i + 1) = 1 by omega]
        rw [h2] at h1
        cases s with
        | nil => simp at hi8
        | cons x t =>
          have hx' := hws x (List.mem_cons_self ..)
          have hx0 : x ≠ 0 := by
            rintro rfl
            have e1 : trimL (0 :: t) = trimL t := by simp [trimL]
            have := len_trim t
            rw [← e1, htt] at this
            simp at this
            omega
          simp [valA] at h1
          have h3 : 0 < valA 0 ((x :: t).take (i + 1)) := by
            have h4 : x ≤ valA 0 ((x :: t).take (i + 1)) := by simpa [valA] using h1
            omega
          omega
    have hmul := dOf_mul (valA 0 (s.take i)).toNat s[i].toNat hnz
    have hnext : 256 * (valA 0 (s.take i)).toNat + s[i].toNat = (valA 0 (s.take (i + 1))).toNat := by omega
    rw [hnext] at hmul
    have hxc : ((s[i].toNat : Nat) : Int) = s[i] := by omega
    rw [hxc] at hmul
    have hdw := dOf_wf (valA 0 (s.take i)).toNat
    generalize hd : dOf (valA 0 (s.take i)).toNat = d at *
    generalize hnx : dOf (valA 0 (s.take (i + 1))).toNat = nx at *
    generalize hx0 : s[i] = x at *
    repeat (first | refine W_seq ?_ | refine W_region ?_ | refine W_block ?_ | refine W_skip ?_ | refine W_ret ?_ | refine W_exit ?_ | refine WL_nil ?_ | refine N_then ?_ | refine N_then_exit ?_ | refine N_then_ret ?_ | refine N_block ?_ | refine N_block_ret ?_ | refine N_block_exit ?_ | refine N_block_pass rfl ?_ | refine sp true rfl rfl (by rw [hn]; rfl) (by first | trivial | (simp; done) | (simp; omega) | (simp at *; done) | (simp at *; omega)) ?_ | refine sg true rfl rfl rfl (by rw [hn]; rfl) (by intro hG; first | trivial | (simp; done) | (simp; omega) | (simp at *; done) | (simp at *; omega)) ?_)
    rw [hg]
    repeat (first | refine W_seq ?_ | refine W_region ?_ | refine W_block ?_ | refine W_skip ?_ | refine W_ret ?_ | refine W_exit ?_ | refine WL_nil ?_ | refine N_then ?_ | refine N_then_exit ?_ | refine N_then_ret ?_ | refine N_block ?_ | refine N_block_ret ?_ | refine N_block_exit ?_ | refine N_block_pass rfl ?_ | refine sp true rfl rfl (by rw [hn]; rfl) (by first | trivial | (simp; done) | (simp; omega) | (simp at *; done) | (simp at *; omega)) ?_ | refine sg true rfl rfl rfl (by rw [hn]; rfl) (by intro hG; first | trivial | (simp; done) | (simp; omega) | (simp at *; done) | (simp at *; omega)) ?_)
    generalize hn0 : d.length = n at *
    refine W_weaken (St.le_of (l := [(1, .c (.ptr 65 0)), (3, .c (.own 76 1 0 n)), (4, lv (.int .i64 (i : Int))), (5, lv (.int .i64 x)), (6, lv (.int .i64 0))]) (h := [(65, .cells [.lf (.v (.bool be)), .lf (.ints .u8 s)]), (76, .row (.ints .i64 d))]) (by refine ⟨?_, ?_⟩ <;> (repeat' (first | exact trivial | exact rfl | refine ⟨?_, ?_⟩)) <;> first | exact rfl | (simp; done) | skip)) ?_
    refine W_loop (ι := {j : Nat // j ≤ n}) (fun j => St.of [(1, .c (.ptr 65 0)), (3, .c (.own 76 1 0 n)), (4, lv (.int .i64 (i : Int))), (5, lv (.int .i64 (mulC (d.take j.1) x).2)), (6, lv (.int .i64 (j.1 : Int)))] [(65, .cells [.lf (.v (.bool be)), .lf (.ints .u8 s)]), (76, .row (.ints .i64 ((mulC (d.take j.1) x).1 ++ d.drop j.1)))]) (fun j => n - j.1) (fun j => ?_) ⟨0, by omega⟩
    obtain ⟨j, hj⟩ := j
    dsimp only
    have hAl : (mulC (d.take j) x).1.length = j := by rw [mulC_len]; simp; omega
    have hlow := mulC_low (d.take j) x (fun y hy => hdw y (List.mem_of_mem_take hy)) hx
    have hApp := mulC_snoc (d.take j) x
    generalize hcc : (mulC (d.take j) x).2 = c at *
    generalize hAA : (mulC (d.take j) x).1 = A at *
    repeat (first | refine W_seq ?_ | refine W_region ?_ | refine W_block ?_ | refine W_skip ?_ | refine W_ret ?_ | refine W_exit ?_ | refine WL_nil ?_ | refine N_then ?_ | refine N_then_exit ?_ | refine N_then_ret ?_ | refine N_block ?_ | refine N_block_ret ?_ | refine N_block_exit ?_ | refine N_block_pass rfl ?_ | refine sp true rfl rfl (by rw [hn]; rfl) (by first | trivial | (simp; done) | (simp; omega) | (simp at *; done) | (simp at *; omega)) ?_ | refine sg true rfl rfl rfl (by rw [hn]; rfl) (by intro hG; first | trivial | (simp; done) | (simp; omega) | (simp at *; done) | (simp at *; omega)) ?_)
    refine W_cond rfl (by simp) (fun hq => ?_) (fun hq => ?_)
    · have hj8 : j < d.length := by simp at hq; omega
      have hy := hdw d[j] (List.getElem_mem hj8)
      have hdd : d.drop j = d[j] :: d.drop (j + 1) := List.drop_eq_getElem_cons hj8
      have hL : (A ++ d.drop j).length = n := by simp; omega
      have hgj : (A ++ d.drop j).getD (0 + (j : Int).toNat) 0 = d[j] := by
        rw [hdd]; simp [List.getElem?_append_right, hAl, hj8]
      have hTj : d.take (j + 1) = d.take j ++ [d[j]] := by rw [List.take_add_one, List.getElem?_eq_getElem hj8]; rfl
      repeat (first | refine W_seq ?_ | refine W_region ?_ | refine W_block ?_ | refine W_skip ?_ | refine W_ret ?_ | refine W_exit ?_ | refine WL_nil ?_ | refine N_then ?_ | refine N_then_exit ?_ | refine N_then_ret ?_ | refine N_block ?_ | refine N_block_ret ?_ | refine N_block_exit ?_ | refine N_block_pass rfl ?_ | refine sp true rfl rfl (by rw [hn]; rfl) (by first | trivial | (simp; done) | (simp; omega) | (simp at *; done) | (simp at *; omega)) ?_ | refine sg true rfl rfl rfl (by rw [hn]; rfl) (by intro hG; first | trivial | (simp; done) | (simp; omega) | (simp at *; done) | (simp at *; omega)) ?_)
      rw [hgj]
      repeat (first | refine W_seq ?_ | refine W_region ?_ | refine W_block ?_ | refine W_skip ?_ | refine W_ret ?_ | refine W_exit ?_ | refine WL_nil ?_ | refine N_then ?_ | refine N_then_exit ?_ | refine N_then_ret ?_ | refine N_block ?_ | refine N_block_ret ?_ | refine N_block_exit ?_ | refine N_block_pass rfl ?_ | refine sp true rfl rfl (by rw [hn]; rfl) (by first | trivial | (simp; done) | (simp; omega) | (simp at *; done) | (simp at *; omega)) ?_ | refine sg true rfl rfl rfl (by rw [hn]; rfl) (by intro hG; first | trivial | (simp; done) | (simp; omega) | (simp at *; done) | (simp at *; omega)) ?_)
      refine s_storeI rfl rfl rfl rfl rfl (by first | trivial | (simp; done) | (simp; omega) | (simp at *; done) | (simp at *; omega)) rfl (by rw [cellsOf3]) (by first | (simp; done) | (simp; omega) | (simp at *; omega)) ?_
      repeat (first | refine W_seq ?_ | refine W_region ?_ | refine W_block ?_ | refine W_skip ?_ | refine W_ret ?_ | refine W_exit ?_ | refine WL_nil ?_ | refine N_then ?_ | refine N_then_exit ?_ | refine N_then_ret ?_ | refine N_block ?_ | refine N_block_ret ?_ | refine N_block_exit ?_ | refine N_block_pass rfl ?_ | refine sp true rfl rfl (by rw [hn]; rfl) (by first | trivial | (simp; done) | (simp; omega) | (simp at *; done) | (simp at *; omega)) ?_ | refine sg true rfl rfl rfl (by rw [hn]; rfl) (by intro hG; first | trivial | (simp; done) | (simp; omega) | (simp at *; done) | (simp at *; omega)) ?_)
      refine N_round ⟨j + 1, by omega⟩ (by dsimp only; omega) (St.le_of ⟨⟨rfl, rfl, rfl, ?_, rfl⟩, ⟨rfl, ?_⟩⟩)
      · show lv (.int .i64 ((256 * d[j] + c) / 10)) = lv (.int .i64 (mulC (d.take (j + 1)) x).2)
        rw [hTj, hApp]
      · show Blk.row (.ints .i64 ((A ++ d.drop j).set (0 + (j : Int).toNat) ((256 * d[j] + c) % 10))) = Blk.row (.ints .i64 ((mulC (d.take (j + 1)) x).1 ++ d.drop (j + 1)))
        rw [hTj, hApp, hdd, set_mid _ _ _ _ _ (by rw [hAl]; simp)]
        simp
    · have : j = n := by simp at hq; omega
      subst this
      rw [List.take_of_length_le (by omega)] at hcc hAA
      rw [List.drop_of_length_le (by omega), List.append_nil]
      rw [hcc, hAA] at hmul
      have hcn : ((c.toNat : Nat) : Int) = c := by omega
      repeat (first | refine W_seq ?_ | refine W_region ?_ | refine W_block ?_ | refine W_skip ?_ | refine W_ret ?_ | refine W_exit ?_ | refine WL_nil ?_ | refine N_then ?_ | refine N_then_exit ?_ | refine N_then_ret ?_ | refine N_block ?_ | refine N_block_ret ?_ | refine N_block_exit ?_ | refine N_block_pass rfl ?_ | refine sp true rfl rfl (by rw [hn]; rfl) (by first | trivial | (simp; done) | (simp; omega) | (simp at *; done) | (simp at *; omega)) ?_ | refine sg true rfl rfl rfl (by rw [hn]; rfl) (by intro hG; first | trivial | (simp; done) | (simp; omega) | (simp at *; done) | (simp at *; omega)) ?_)
      refine W_weaken (St.le_of (l := [(1, .c (.ptr 65 0)), (3, .c (.own 76 1 0 j)), (4, lv (.int .i64 (i : Int))), (5, lv (.int .i64 c))]) (h := [(65, .cells [.lf (.v (.bool be)), .lf (.ints .u8 s)]), (76, .row (.ints .i64 A))]) (by refine ⟨?_, ?_⟩ <;> (repeat' (first | exact trivial | exact rfl | refine ⟨?_, ?_⟩)) <;> first | exact rfl | (simp; done) | skip)) ?_
      refine W_weaken (τ := St.of [(1, .c (.ptr 65 0)), (3, .c (.own 76 1 0 A.length)), (4, lv (.int .i64 (i : Int))), (5, lv (.int .i64 ((c.toNat : Nat) : Int)))] [(65, .cells [.lf (.v (.bool be)), .lf (.ints .u8 s)]), (76, .row (.ints .i64 A))]) ?_ ?_
      · rw [hAl, hcn]; exact ⟨fun _ => .inl rfl, fun _ => .inl rfl⟩
      have hcb : c.toNat < 256 := by omega
      refine W_loop (ι := {p : PushI nx // p.c < 256}) (fun p => St.of [(1, .c (.ptr 65 0)), (3, .c (.own 76 1 0 p.1.out.length)), (4, lv (.int .i64 (i : Int))), (5, lv (.int .i64 (p.1.c : Int)))] [(65, .cells [.lf (.v (.bool be)), .lf (.ints .u8 s)]), (76, .row (.ints .i64 p.1.out))]) (fun p => p.1.c) (fun p => ?_) ⟨⟨c.toNat, A, hmul⟩, hcb⟩
      obtain ⟨⟨c', out, ev⟩, hc'⟩ := p
      dsimp only at *
      have hc9 : c' < 256 := hc'
      have hol : out.length ≤ 601 := by rw [← ev] at hl3'; simp at hl3'; omega
      repeat (first | refine W_seq ?_ | refine W_region ?_ | refine W_block ?_ | refine W_skip ?_ | refine W_ret ?_ | refine W_exit ?_ | refine WL_nil ?_ | refine N_then ?_ | refine N_then_exit ?_ | refine N_then_ret ?_ | refine N_block ?_ | refine N_block_ret ?_ | refine N_block_exit ?_ | refine N_block_pass rfl ?_ | refine sp true rfl rfl (by rw [hn]; rfl) (by first | trivial | (simp; done) | (simp; omega) | (simp at *; done) | (simp at *; omega)) ?_ | refine sg true rfl rfl rfl (by rw [hn]; rfl) (by intro hG; first | trivial | (simp; done) | (simp; omega) | (simp at *; done) | (simp at *; omega)) ?_)
      refine W_cond rfl (by simp) (fun hr => ?_) (fun hr => ?_)
      · have hc0 : c' ≠ 0 := by simp at hr; omega
        repeat (first | refine W_seq ?_ | refine W_region ?_ | refine W_block ?_ | refine W_skip ?_ | refine W_ret ?_ | refine W_exit ?_ | refine WL_nil ?_ | refine N_then ?_ | refine N_then_exit ?_ | refine N_then_ret ?_ | refine N_block ?_ | refine N_block_ret ?_ | refine N_block_exit ?_ | refine N_block_pass rfl ?_ | refine sp true rfl rfl (by rw [hn]; rfl) (by first | trivial | (simp; done) | (simp; omega) | (simp at *; done) | (simp at *; omega)) ?_ | refine sg true rfl rfl rfl (by rw [hn]; rfl) (by intro hG; first | trivial | (simp; done) | (simp; omega) | (simp at *; done) | (simp at *; omega)) ?_)
        refine s_litI rfl rfl rfl (by rw [hn]; rfl) (elt_mk Try.underlying60 rfl rfl) (zok3) (by first | trivial | (simp; done) | (simp; omega) | (simp at *; done) | (simp at *; omega)) ⟨by decide, rfl⟩ ?_
        repeat (first | refine W_seq ?_ | refine W_region ?_ | refine W_block ?_ | refine W_skip ?_ | refine W_ret ?_ | refine W_exit ?_ | refine WL_nil ?_ | refine N_then ?_ | refine N_then_exit ?_ | refine N_then_ret ?_ | refine N_block ?_ | refine N_block_ret ?_ | refine N_block_exit ?_ | refine N_block_pass rfl ?_ | refine sp true rfl rfl (by rw [hn]; rfl) (by first | trivial | (simp; done) | (simp; omega) | (simp at *; done) | (simp at *; omega)) ?_ | refine sg true rfl rfl rfl (by rw [hn]; rfl) (by intro hG; first | trivial | (simp; done) | (simp; omega) | (simp at *; done) | (simp at *; omega)) ?_)
        refine s_appI rfl rfl rfl rfl rfl rfl (by rw [hn]; rfl) (elt_mk Try.underlying60 rfl rfl) rfl rfl rfl rfl (by first | trivial | (simp; done) | (simp; omega) | (simp at *; done) | (simp at *; omega)) (by first | rfl | (simp; done) | (simp; omega)) ⟨by first | (simp; done) | (simp; omega) | (simp at *; omega), by decide⟩ ?_
        repeat (first | refine W_seq ?_ | refine W_region ?_ | refine W_block ?_ | refine W_skip ?_ | refine W_ret ?_ | refine W_exit ?_ | refine WL_nil ?_ | refine N_then ?_ | refine N_then_exit ?_ | refine N_then_ret ?_ | refine N_block ?_ | refine N_block_ret ?_ | refine N_block_exit ?_ | refine N_block_pass rfl ?_ | refine sp true rfl rfl (by rw [hn]; rfl) (by first | trivial | (simp; done) | (simp; omega) | (simp at *; done) | (simp at *; omega)) ?_ | refine sg true rfl rfl rfl (by rw [hn]; rfl) (by intro hG; first | trivial | (simp; done) | (simp; omega) | (simp at *; done) | (simp at *; omega)) ?_)
        refine N_round ⟨⟨c' / 10, out ++ [((c' % 10 : Nat) : Int)], by rw [← ev, decD_pos hc0]; simp⟩, by dsimp only; omega⟩ (by dsimp only; omega) (St.le_of ⟨⟨rfl, rfl, rfl, rfl⟩, ⟨rfl, rfl⟩⟩)
      · have hc0 : c' = 0 := by simp at hr; omega
        subst hc0
        rw [decD_zero, List.append_nil] at ev
        subst ev
        repeat (first | refine W_seq ?_ | refine W_region ?_ | refine W_block ?_ | refine W_skip ?_ | refine W_ret ?_ | refine W_exit ?_ | refine WL_nil ?_ | refine N_then ?_ | refine N_then_exit ?_ | refine N_then_ret ?_ | refine N_block ?_ | refine N_block_ret ?_ | refine N_block_exit ?_ | refine N_block_pass rfl ?_ | refine sp true rfl rfl (by rw [hn]; rfl) (by first | trivial | (simp; done) | (simp; omega) | (simp at *; done) | (simp at *; omega)) ?_ | refine sg true rfl rfl rfl (by rw [hn]; rfl) (by intro hG; first | trivial | (simp; done) | (simp; omega) | (simp at *; done) | (simp at *; omega)) ?_)
        refine N_round ⟨i + 1, by omega⟩ (by dsimp only; omega) (St.le_of ⟨⟨rfl, ?_, rfl⟩, ⟨rfl, ?_⟩⟩)
        · rw [hnx]; rfl
        · rw [hnx]; rfl
  · have : i = s.length := by simp at hq; omega
    subst this
    rw [List.take_length] at *
    have hdw := dOf_wf (valA 0 s).toNat
    have hTx : textL be s = cond be [45] [] ++ ((dOf (valA 0 s).toNat).map (fun x => 48 + x)).reverse := by
      have hz : s = [] ↔ (valA 0 s).toNat = 0 := by
        constructor
        · intro h; rw [h]; rfl
        · intro h
          cases s with
          | nil => rfl
          | cons x t =>
            exfalso
            have hx' := hws x (List.mem_cons_self ..)
            have hx0 : x ≠ 0 := by
              rintro rfl
              have e1 : trimL (0 :: t) = trimL t := by simp [trimL]
              have := len_trim t
              rw [← e1, htt] at this
              simp at this
              omega
            have := val_nonneg t (256 * 0 + x) (by omega) (wf_tail hws)
            simp only [valA] at h
            omega
      rw [textL, dOf]
      by_cases h : s = []
      · rw [if_pos h, if_pos (hz.1 h)]; rfl
      · rw [if_neg h, if_neg (fun h' => h (hz.2 h')), decL_D _ _ (Nat.le_refl _)]
    rw [hTx]
    generalize hd : dOf (valA 0 s).toNat = d at *
    repeat (first | refine W_seq ?_ | refine W_region ?_ | refine W_block ?_ | refine W_skip ?_ | refine W_ret ?_ | refine W_exit ?_ | refine WL_nil ?_ | refine N_then ?_ | refine N_then_exit ?_ | refine N_then_ret ?_ | refine N_block ?_ | refine N_block_ret ?_ | refine N_block_exit ?_ | refine N_block_pass rfl ?_ | refine sp true rfl rfl (by rw [hn]; rfl) (by first | trivial | (simp; done) | (simp; omega) | (simp at *; done) | (simp at *; omega)) ?_ | refine sg true rfl rfl rfl (by rw [hn]; rfl) (by intro hG; first | trivial | (simp; done) | (simp; omega) | (simp at *; done) | (simp at *; omega)) ?_)
    refine W_weaken (St.le_of (l := [(1, .c (.ptr 65 0)), (3, .c (.own 76 1 0 d.length)), (8, lv (.string (ByteArray.mk #[]))), (9, lv (.int .i64 0))]) (h := [(65, .cells [.lf (.v (.bool be)), .lf (.ints .u8 s)]), (76, .row (.ints .i64 d))]) (by refine ⟨?_, ?_⟩ <;> (repeat' (first | exact trivial | exact rfl | refine ⟨?_, ?_⟩)) <;> first | exact rfl | (simp; done) | skip)) ?_
    refine W_loop (ι := {i : Nat // i ≤ d.length}) (fun i => St.of [(1, .c (.ptr 65 0)), (3, .c (.own 76 1 0 d.length)), (8, lv (.string (strOfNums ((d.take i.1).map (fun x => 48 + x)).reverse))), (9, lv (.int .i64 (i.1 : Int)))] [(65, .cells [.lf (.v (.bool be)), .lf (.ints .u8 s)]), (76, .row (.ints .i64 d))]) (fun i => d.length - i.1) (fun i => ?_) ⟨0, by omega⟩
    obtain ⟨i, hi⟩ := i
    dsimp only
    repeat (first | refine W_seq ?_ | refine W_region ?_ | refine W_block ?_ | refine W_skip ?_ | refine W_ret ?_ | refine W_exit ?_ | refine WL_nil ?_ | refine N_then ?_ | refine N_then_exit ?_ | refine N_then_ret ?_ | refine N_block ?_ | refine N_block_ret ?_ | refine N_block_exit ?_ | refine N_block_pass rfl ?_ | refine sp true rfl rfl (by rw [hn]; rfl) (by first | trivial | (simp; done) | (simp; omega) | (simp at *; done) | (simp at *; omega)) ?_ | refine sg true rfl rfl rfl (by rw [hn]; rfl) (by intro hG; first | trivial | (simp; done) | (simp; omega) | (simp at *; done) | (simp at *; omega)) ?_)
    refine W_cond rfl (by simp) (fun hr => ?_) (fun hr => ?_)
    · have hi8 : i < d.length := by simp at hr; omega
      have hy := hdw d[i] (List.getElem_mem hi8)
      have hgi : d.getD (0 + (i : Int).toNat) 0 = d[i] := by simp [hi8]
      have hTi : d.take (i + 1) = d.take i ++ [d[i]] := by rw [List.take_add_one, List.getElem?_eq_getElem hi8]; rfl
      repeat (first | refine W_seq ?_ | refine W_region ?_ | refine W_block ?_ | refine W_skip ?_ | refine W_ret ?_ | refine W_exit ?_ | refine WL_nil ?_ | refine N_then ?_ | refine N_then_exit ?_ | refine N_then_ret ?_ | refine N_block ?_ | refine N_block_ret ?_ | refine N_block_exit ?_ | refine N_block_pass rfl ?_ | refine sp true rfl rfl (by rw [hn]; rfl) (by first | trivial | (simp; done) | (simp; omega) | (simp at *; done) | (simp at *; omega)) ?_ | refine sg true rfl rfl rfl (by rw [hn]; rfl) (by intro hG; first | trivial | (simp; done) | (simp; omega) | (simp at *; done) | (simp at *; omega)) ?_)
      rw [hgi]
      repeat (first | refine W_seq ?_ | refine W_region ?_ | refine W_block ?_ | refine W_skip ?_ | refine W_ret ?_ | refine W_exit ?_ | refine WL_nil ?_ | refine N_then ?_ | refine N_then_exit ?_ | refine N_then_ret ?_ | refine N_block ?_ | refine N_block_ret ?_ | refine N_block_exit ?_ | refine N_block_pass rfl ?_ | refine sp true rfl rfl (by rw [hn]; rfl) (by first | trivial | (simp; done) | (simp; omega) | (simp at *; done) | (simp at *; omega)) ?_ | refine sg true rfl rfl rfl (by rw [hn]; rfl) (by intro hG; first | trivial | (simp; done) | (simp; omega) | (simp at *; done) | (simp at *; omega)) ?_)
      refine s_litI rfl rfl rfl (by rw [hn]; rfl) (elt_mk Try.underlying22 rfl rfl) (zok5) (by first | trivial | (simp; done) | (simp; omega) | (simp at *; done) | (simp at *; omega)) ⟨by decide, rfl⟩ ?_
      repeat (first | refine W_seq ?_ | refine W_region ?_ | refine W_block ?_ | refine W_skip ?_ | refine W_ret ?_ | refine W_exit ?_ | refine WL_nil ?_ | refine N_then ?_ | refine N_then_exit ?_ | refine N_then_ret ?_ | refine N_block ?_ | refine N_block_ret ?_ | refine N_block_exit ?_ | refine N_block_pass rfl ?_ | refine sp true rfl rfl (by rw [hn]; rfl) (by first | trivial | (simp; done) | (simp; omega) | (simp at *; done) | (simp at *; omega)) ?_ | refine sg true rfl rfl rfl (by rw [hn]; rfl) (by intro hG; first | trivial | (simp; done) | (simp; omega) | (simp at *; done) | (simp at *; omega)) ?_)
      refine WL_q (opq_of (opy_str rfl Try.underlying22 Try.underlying5 Try.underlying9 rfl (by first | trivial | (simp; done) | (simp; omega) | (simp at *; done) | (simp at *; omega))) rfl) (by rw [hn]; rfl) ?_
      repeat (first | refine W_seq ?_ | refine W_region ?_ | refine W_block ?_ | refine W_skip ?_ | refine W_ret ?_ | refine W_exit ?_ | refine WL_nil ?_ | refine N_then ?_ | refine N_then_exit ?_ | refine N_then_ret ?_ | refine N_block ?_ | refine N_block_ret ?_ | refine N_block_exit ?_ | refine N_block_pass rfl ?_ | refine sp true rfl rfl (by rw [hn]; rfl) (by first | trivial | (simp; done) | (simp; omega) | (simp at *; done) | (simp at *; omega)) ?_ | refine sg true rfl rfl rfl (by rw [hn]; rfl) (by intro hG; first | trivial | (simp; done) | (simp; omega) | (simp at *; done) | (simp at *; omega)) ?_)
      refine N_round ⟨i + 1, by omega⟩ (by dsimp only; omega) (St.le_of ⟨⟨rfl, rfl, ?_, rfl⟩, ⟨rfl, rfl⟩⟩)
      show lv (.string (strOfNums [48 + d[i]] ++ strOfNums ((d.take i).map (fun x => 48 + x)).reverse)) = lv (.string (strOfNums ((d.take (i + 1)).map (fun x => 48 + x)).reverse))
      rw [app_str, hTi, List.map_append, List.reverse_append]
      rfl
    · have : i = d.length := by simp at hr; omega
      subst this
      rw [List.take_length]
      repeat (first | refine W_seq ?_ | refine W_region ?_ | refine W_block ?_ | refine W_skip ?_ | refine W_ret ?_ | refine W_exit ?_ | refine WL_nil ?_ | refine N_then ?_ | refine N_then_exit ?_ | refine N_then_ret ?_ | refine N_block ?_ | refine N_block_ret ?_ | refine N_block_exit ?_ | refine N_block_pass rfl ?_ | refine sp true rfl rfl (by rw [hn]; rfl) (by first | trivial | (simp; done) | (simp; omega) | (simp at *; done) | (simp at *; omega)) ?_ | refine sg true rfl rfl rfl (by rw [hn]; rfl) (by intro hG; first | trivial | (simp; done) | (simp; omega) | (simp at *; done) | (simp at *; omega)) ?_)
      refine W_cond rfl (by simp) (fun hr => ?_) (fun hr => ?_)
      · subst hr
        repeat (first | refine W_seq ?_ | refine W_region ?_ | refine W_block ?_ | refine W_skip ?_ | refine W_ret ?_ | refine W_exit ?_ | refine WL_nil ?_ | refine N_then ?_ | refine N_then_exit ?_ | refine N_then_ret ?_ | refine N_block ?_ | refine N_block_ret ?_ | refine N_block_exit ?_ | refine N_block_pass rfl ?_ | refine sp true rfl rfl (by rw [hn]; rfl) (by first | trivial | (simp; done) | (simp; omega) | (simp at *; done) | (simp at *; omega)) ?_ | refine sg true rfl rfl rfl (by rw [hn]; rfl) (by intro hG; first | trivial | (simp; done) | (simp; omega) | (simp at *; done) | (simp at *; omega)) ?_)
        refine sp true rfl rfl (by rw [hn]; rfl) ?_ ?_
        · have e1 : (ByteArray.mk #[45]).size = 1 := rfl
          have e2 : (strOfNums (d.map (fun x => 48 + x)).reverse).size = d.length := by rw [size_str]; simp
          show (ByteArray.mk #[45]).size + (strOfNums (d.map (fun x => 48 + x)).reverse).size ≤ 9223372036854775807
          rw [e1, e2]
          omega
        repeat (first | refine W_seq ?_ | refine W_region ?_ | refine W_block ?_ | refine W_skip ?_ | refine W_ret ?_ | refine W_exit ?_ | refine WL_nil ?_ | refine N_then ?_ | refine N_then_exit ?_ | refine N_then_ret ?_ | refine N_block ?_ | refine N_block_ret ?_ | refine N_block_exit ?_ | refine N_block_pass rfl ?_ | refine sp true rfl rfl (by rw [hn]; rfl) (by first | trivial | (simp; done) | (simp; omega) | (simp at *; done) | (simp at *; omega)) ?_ | refine sg true rfl rfl rfl (by rw [hn]; rfl) (by intro hG; first | trivial | (simp; done) | (simp; omega) | (simp at *; done) | (simp at *; omega)) ?_)
        refine N_retN [] rfl (by first | trivial | (simp; done) | (simp; omega) | (simp at *; done) | (simp at *; omega)) ⟨?_, by first | trivial | exact ⟨rfl, rfl⟩, ?_, rfl⟩ hb rfl (by first | trivial | (simp; done))
        · show lv (.string (strOfNums [45] ++ strOfNums (d.map (fun x => 48 + x)).reverse)) = lv (.string (strOfNums ([45] ++ (d.map (fun x => 48 + x)).reverse)))
          rw [app_str]
        · trivial
      · subst hr
        repeat (first | refine W_seq ?_ | refine W_region ?_ | refine W_block ?_ | refine W_skip ?_ | refine W_ret ?_ | refine W_exit ?_ | refine WL_nil ?_ | refine N_then ?_ | refine N_then_exit ?_ | refine N_then_ret ?_ | refine N_block ?_ | refine N_block_ret ?_ | refine N_block_exit ?_ | refine N_block_pass rfl ?_ | refine sp true rfl rfl (by rw [hn]; rfl) (by first | trivial | (simp; done) | (simp; omega) | (simp at *; done) | (simp at *; omega)) ?_ | refine sg true rfl rfl rfl (by rw [hn]; rfl) (by intro hG; first | trivial | (simp; done) | (simp; omega) | (simp at *; done) | (simp at *; omega)) ?_)
        exact N_retN [] rfl (by first | trivial | (simp; done) | (simp; omega) | (simp at *; done) | (simp at *; omega)) ⟨rfl, by first | trivial | exact ⟨rfl, rfl⟩, by first | trivial | exact rfl | exact ⟨rfl, rfl⟩, rfl⟩ hb rfl (by first | trivial | (simp; done))
end Go.Proofs.Ytppmfjopokkhmaa

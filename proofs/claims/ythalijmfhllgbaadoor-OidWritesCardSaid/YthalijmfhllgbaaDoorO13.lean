/-
  Chapter 04: an oid's text, the document's way. The conditions: none but that the oid is right.
-/
import Derived.Test.YthalijmfhllgbaaDoorW20
import Derived.Lib.ItoaNum
namespace Go.Proofs.YthalijmfhllgbaaDoor
set_option linter.unusedSimpArgs false
set_option linter.unusedVariables false
open Go.Sx

set_option maxRecDepth 10000

theorem mulC_snoc : ∀ (a : List Int) (c x : Int), mulC (a ++ [x]) c = ((mulC a c).1 ++ [(256 * x + (mulC a c).2) % 10], (256 * x + (mulC a c).2) / 10)
  | [], c, x => rfl
  | y :: a, c, x => by simp only [List.cons_append, mulC, mulC_snoc a]
theorem mulC_len : ∀ (a : List Int) (c : Int), (mulC a c).1.length = a.length
  | [], _ => rfl
  | y :: a, c => by simp [mulC, mulC_len a]
theorem mulC_low : ∀ (a : List Int) (c : Int), (∀ x ∈ a, 0 ≤ x ∧ x < 10) → 0 ≤ c ∧ c < 256 → 0 ≤ (mulC a c).2 ∧ (mulC a c).2 < 256
  | [], c, _, h => h
  | y :: a, c, ha, h => by
    have hy := ha y (List.mem_cons_self ..)
    exact mulC_low a _ (fun x hx => ha x (List.mem_cons_of_mem _ hx)) (by omega)
def dOf (v : Nat) : List Int := if v = 0 then [0] else decD v
theorem dOf_wf (v : Nat) : ∀ x ∈ dOf v, 0 ≤ x ∧ x < 10 := by
  unfold dOf
  split
  · intro x hx; simp at hx; subst hx; omega
  · exact decD_wf v v (Nat.le_refl _)
theorem dOf_mul (v c : Nat) (h : v ≠ 0 ∨ c ≠ 0) : (mulC (dOf v) c).1 ++ decD (mulC (dOf v) c).2.toNat = dOf (256 * v + c) := by
  unfold dOf
  rw [if_neg (show 256 * v + c ≠ 0 by omega)]
  by_cases hv : v = 0
  · subst hv
    have hc : c ≠ 0 := by omega
    rw [if_pos rfl, decD_pos (show 256 * 0 + c ≠ 0 by omega)]
    simp only [mulC, List.cons_append, List.nil_append]
    have e1 : (256 * (0 : Int) + (c : Int)) / 10 = ((c / 10 : Nat) : Int) := by omega
    have e2 : (256 * (0 : Int) + (c : Int)) % 10 = (((256 * 0 + c) % 10 : Nat) : Int) := by omega
    have e3 : (256 * 0 + c) / 10 = c / 10 := by omega
    rw [e1, e2, e3]; rfl
  · rw [if_neg hv, mul_dec v v c (Nat.le_refl _)]

structure PushI (T : List Int) where
  c : Nat
  out : List Int
  ev : out ++ decD c = T

theorem reftext_ok (b : Bool) (l : List Int) (hl : l.length ≤ 200) (hw : WfB l) : Ct Tryd.prog 44 [numA b l] [] (lv (.string (strOfNums (textL (madeB b l) (trimL l))))) [] [] := by
  have ht := len_trim l
  have hws := wf_trim hw
  have htt := trim_idem l
  refine Ct_intro Tryd.func44 rfl rfl rfl rfl rfl (fun E hn hb => ?_)
  repeat (first | refine stp ?_ | refine N_block_pass rfl ?_ | refine sp1 ?_ | refine sg1 ?_ | refine WL_nil ?_)
  refine s_boxN rfl rfl rfl (by rw [hn]; rfl) rfl (by first | trivial | (simp; done) | (simp; omega) | (simp at *; done) | (simp at *; omega)) rfl rfl ?_
  repeat (first | refine stp ?_ | refine N_block_pass rfl ?_ | refine sp1 ?_ | refine sg1 ?_ | refine WL_nil ?_)
  refine s_call0 (refmade_ok b l (by omega)) rfl rfl rfl (by rw [hn]; rfl) rfl rfl (by first | trivial | (simp; done) | (simp; omega) | (simp at *; done) | (simp at *; omega)) rfl rfl rfl ?_
  refine s_storeN rfl rfl rfl rfl rfl (by first | trivial | (simp; done) | (simp; omega) | (simp at *; done) | (simp at *; omega)) rfl rfl rfl (by rw [cellsOf74]; rfl) (by rw [info74]; rfl) rfl rfl ?_
  repeat (first | refine stp ?_ | refine N_block_pass rfl ?_ | refine sp1 ?_ | refine sg1 ?_ | refine WL_nil ?_)
  generalize hs : trimL l = s at *
  generalize hbe : madeB b l = be at *
  refine s_litI rfl rfl rfl (by rw [hn]; rfl) (elt_mk Tryd.underlying22 rfl rfl) (zok3) (by first | trivial | (simp; done) | (simp; omega) | (simp at *; done) | (simp at *; omega)) ⟨by decide, rfl⟩ ?_
  repeat (first | refine stp ?_ | refine N_block_pass rfl ?_ | refine sp1 ?_ | refine sg1 ?_ | refine WL_nil ?_)
  have e0 : dOf (valA 0 (s.take 0)).toNat = [0] := rfl
  refine W_weaken (St.le_of (l := [(1, .c (.ptr 65 0)), (3, .c (.own 76 1 0 1)), (4, lv (.int .i64 0))]) (h := [(65, .cells [.lf (.v (.bool be)), .lf (.ints .u8 s)]), (76, .row (.ints .i64 [0]))]) (by refine ⟨?_, ?_⟩ <;> (repeat' (first | exact trivial | exact rfl | refine ⟨?_, ?_⟩)) <;> first | exact rfl | (simp; done) | skip)) ?_
  refine W_weaken (τ := St.of [(1, .c (.ptr 65 0)), (3, .c (.own 76 1 0 (dOf (valA 0 (s.take 0)).toNat).length)), (4, lv (.int .i64 ((0 : Nat) : Int)))] [(65, .cells [.lf (.v (.bool be)), .lf (.ints .u8 s)]), (76, .row (.ints .i64 (dOf (valA 0 (s.take 0)).toNat)))]) ?_ ?_
  · rw [e0]; exact ⟨fun _ => .inl rfl, fun _ => .inl rfl⟩
  refine W_loop (ι := {i : Nat // i ≤ s.length}) (fun i => St.of [(1, .c (.ptr 65 0)), (3, .c (.own 76 1 0 (dOf (valA 0 (s.take i.1)).toNat).length)), (4, lv (.int .i64 (i.1 : Int)))] [(65, .cells [.lf (.v (.bool be)), .lf (.ints .u8 s)]), (76, .row (.ints .i64 (dOf (valA 0 (s.take i.1)).toNat)))]) (fun i => s.length - i.1) (fun i => ?_) ⟨0, by omega⟩
  obtain ⟨i, hi⟩ := i
  dsimp only
  have hdL : ∀ v : Nat, (dOf v).length ≤ (decL v).length + 1 := by
    intro v
    unfold dOf
    split
    · simp
    · rw [decL_D v v (Nat.le_refl _)]; simp
  have hwt : WfB (s.take i) := wf_take hws i
  have hv0 := val_nonneg (s.take i) 0 (by decide) hwt
  have hl1 := dec_len (s.take i) hwt
  have hl2 := hdL (valA 0 (s.take i)).toNat
  have hl3 : (dOf (valA 0 (s.take i)).toNat).length ≤ 601 := by simp at hl1; omega
  repeat (first | refine stp ?_ | refine N_block_pass rfl ?_ | refine sp1 ?_ | refine sg1 ?_ | refine WL_nil ?_)
  refine W_cond rfl (by simp) (fun hq => ?_) (fun hq => ?_)
  · have hi8 : i < s.length := by simp at hq; omega
    have hx := hws s[i] (List.getElem_mem hi8)
    have hg : s.getD (i : Int).toNat 0 = s[i] := by simp [hi8]
    have hT : s.take (i + 1) = s.take i ++ [s[i]] := by rw [List.take_add_one, List.getElem?_eq_getElem hi8]; rfl
    have hvs := val_snoc (s.take i) s[i]
    rw [← hT] at hvs
    have hwt' : WfB (s.take (i + 1)) := wf_take hws (i + 1)
    have hl1' := dec_len (s.take (i + 1)) hwt'
    have hl2' := hdL (valA 0 (s.take (i + 1))).toNat
    have hl3' : (dOf (valA 0 (s.take (i + 1))).toNat).length ≤ 601 := by simp at hl1'; omega
    have hnz : (valA 0 (s.take i)).toNat ≠ 0 ∨ s[i].toNat ≠ 0 := by
      cases i with
      | zero =>
        right
        cases s with
        | nil => simp at hi8
        | cons x t =>
          have hx0 : x ≠ 0 := by
            rintro rfl
            have e1 : trimL (0 :: t) = trimL t := by simp [trimL]
            have := len_trim t
            rw [← e1, htt] at this
            simp at this
            omega
          simp only [List.getElem_cons_zero] at hx ⊢
          omega
      | succ i =>
        left
        have h1 := val_take_le (s.take (i + 1)) 1 hwt
        have h2 : (s.take (i + 1)).take 1 = s.take 1 := by rw [List.take_take, show min 1 (i + 1) = 1 by omega]
        rw [h2] at h1
        cases s with
        | nil => simp at hi8
        | cons x t =>
          have hx' := hws x (List.mem_cons_self ..)
          have hx0 : x ≠ 0 := by
            rintro rfl
            have e1 : trimL (0 :: t) = trimL t := by simp [trimL]
            have := len_trim t
            rw [← e1, htt] at this
            simp at this
            omega
          simp [valA] at h1
          have h3 : 0 < valA 0 ((x :: t).take (i + 1)) := by
            have h4 : x ≤ valA 0 ((x :: t).take (i + 1)) := by simpa [valA] using h1
            omega
          omega
    have hmul := dOf_mul (valA 0 (s.take i)).toNat s[i].toNat hnz
    have hnext : 256 * (valA 0 (s.take i)).toNat + s[i].toNat = (valA 0 (s.take (i + 1))).toNat := by omega
    rw [hnext] at hmul
    have hxc : ((s[i].toNat : Nat) : Int) = s[i] := by omega
    rw [hxc] at hmul
    have hdw := dOf_wf (valA 0 (s.take i)).toNat
    generalize hd : dOf (valA 0 (s.take i)).toNat = d at *
    generalize hnx : dOf (valA 0 (s.take (i + 1))).toNat = nx at *
    generalize hx0 : s[i] = x at *
    repeat (first | refine stp ?_ | refine N_block_pass rfl ?_ | refine sp1 ?_ | refine sg1 ?_ | refine WL_nil ?_)
    rw [hg]
    repeat (first | refine stp ?_ | refine N_block_pass rfl ?_ | refine sp1 ?_ | refine sg1 ?_ | refine WL_nil ?_)
    generalize hn0 : d.length = n at *
    refine W_weaken (St.le_of (l := [(1, .c (.ptr 65 0)), (3, .c (.own 76 1 0 n)), (4, lv (.int .i64 (i : Int))), (5, lv (.int .i64 x)), (6, lv (.int .i64 0))]) (h := [(65, .cells [.lf (.v (.bool be)), .lf (.ints .u8 s)]), (76, .row (.ints .i64 d))]) (by refine ⟨?_, ?_⟩ <;> (repeat' (first | exact trivial | exact rfl | refine ⟨?_, ?_⟩)) <;> first | exact rfl | (simp; done) | skip)) ?_
    refine W_loop (ι := {j : Nat // j ≤ n}) (fun j => St.of [(1, .c (.ptr 65 0)), (3, .c (.own 76 1 0 n)), (4, lv (.int .i64 (i : Int))), (5, lv (.int .i64 (mulC (d.take j.1) x).2)), (6, lv (.int .i64 (j.1 : Int)))] [(65, .cells [.lf (.v (.bool be)), .lf (.ints .u8 s)]), (76, .row (.ints .i64 ((mulC (d.take j.1) x).1 ++ d.drop j.1)))]) (fun j => n - j.1) (fun j => ?_) ⟨0, by omega⟩
    obtain ⟨j, hj⟩ := j
    dsimp only
    have hAl : (mulC (d.take j) x).1.length = j := by rw [mulC_len]; simp; omega
    have hlow := mulC_low (d.take j) x (fun y hy => hdw y (List.mem_of_mem_take hy)) hx
    have hApp := mulC_snoc (d.take j) x
    generalize hcc : (mulC (d.take j) x).2 = c at *
    generalize hAA : (mulC (d.take j) x).1 = A at *
    repeat (first | refine stp ?_ | refine N_block_pass rfl ?_ | refine sp1 ?_ | refine sg1 ?_ | refine WL_nil ?_)
    refine W_cond rfl (by simp) (fun hq => ?_) (fun hq => ?_)
    · have hj8 : j < d.length := by simp at hq; omega
      have hy := hdw d[j] (List.getElem_mem hj8)
      have hdd : d.drop j = d[j] :: d.drop (j + 1) := List.drop_eq_getElem_cons hj8
      have hL : (A ++ d.drop j).length = n := by simp; omega
      have hgj : (A ++ d.drop j).getD (0 + (j : Int).toNat) 0 = d[j] := by
        rw [hdd]; simp [List.getElem?_append_right, hAl, hj8]
      have hTj : d.take (j + 1) = d.take j ++ [d[j]] := by rw [List.take_add_one, List.getElem?_eq_getElem hj8]; rfl
      repeat (first | refine stp ?_ | refine N_block_pass rfl ?_ | refine sp1 ?_ | refine sg1 ?_ | refine WL_nil ?_)
      rw [hgj]
      repeat (first | refine stp ?_ | refine N_block_pass rfl ?_ | refine sp1 ?_ | refine sg1 ?_ | refine WL_nil ?_)
      refine s_storeI rfl rfl rfl rfl rfl (by first | trivial | (simp; done) | (simp; omega) | (simp at *; done) | (simp at *; omega)) rfl (by rw [cellsOf3]) (by first | (simp; done) | (simp; omega) | (simp at *; omega)) ?_
      repeat (first | refine stp ?_ | refine N_block_pass rfl ?_ | refine sp1 ?_ | refine sg1 ?_ | refine WL_nil ?_)
      refine N_round ⟨j + 1, by omega⟩ (by dsimp only; omega) (St.le_of ⟨⟨rfl, rfl, rfl, ?_, rfl⟩, ⟨rfl, ?_⟩⟩)
      · show lv (.int .i64 ((256 * d[j] + c) / 10)) = lv (.int .i64 (mulC (d.take (j + 1)) x).2)
        rw [hTj, hApp]
      · show Blk.row (.ints .i64 ((A ++ d.drop j).set (0 + (j : Int).toNat) ((256 * d[j] + c) % 10))) = Blk.row (.ints .i64 ((mulC (d.take (j + 1)) x).1 ++ d.drop (j + 1)))
        rw [hTj, hApp, hdd, set_mid _ _ _ _ _ (by rw [hAl]; simp)]
        simp
    · have : j = n := by simp at hq; omega
      subst this
      rw [List.take_of_length_le (by omega)] at hcc hAA
      rw [List.drop_of_length_le (by omega), List.append_nil]
      rw [hcc, hAA] at hmul
      have hcn : ((c.toNat : Nat) : Int) = c := by omega
      repeat (first | refine stp ?_ | refine N_block_pass rfl ?_ | refine sp1 ?_ | refine sg1 ?_ | refine WL_nil ?_)
      refine W_weaken (St.le_of (l := [(1, .c (.ptr 65 0)), (3, .c (.own 76 1 0 j)), (4, lv (.int .i64 (i : Int))), (5, lv (.int .i64 c))]) (h := [(65, .cells [.lf (.v (.bool be)), .lf (.ints .u8 s)]), (76, .row (.ints .i64 A))]) (by refine ⟨?_, ?_⟩ <;> (repeat' (first | exact trivial | exact rfl | refine ⟨?_, ?_⟩)) <;> first | exact rfl | (simp; done) | skip)) ?_
      refine W_weaken (τ := St.of [(1, .c (.ptr 65 0)), (3, .c (.own 76 1 0 A.length)), (4, lv (.int .i64 (i : Int))), (5, lv (.int .i64 ((c.toNat : Nat) : Int)))] [(65, .cells [.lf (.v (.bool be)), .lf (.ints .u8 s)]), (76, .row (.ints .i64 A))]) ?_ ?_
      · rw [hAl, hcn]; exact ⟨fun _ => .inl rfl, fun _ => .inl rfl⟩
      have hcb : c.toNat < 256 := by omega
      refine W_loop (ι := {p : PushI nx // p.c < 256}) (fun p => St.of [(1, .c (.ptr 65 0)), (3, .c (.own 76 1 0 p.1.out.length)), (4, lv (.int .i64 (i : Int))), (5, lv (.int .i64 (p.1.c : Int)))] [(65, .cells [.lf (.v (.bool be)), .lf (.ints .u8 s)]), (76, .row (.ints .i64 p.1.out))]) (fun p => p.1.c) (fun p => ?_) ⟨⟨c.toNat, A, hmul⟩, hcb⟩
      obtain ⟨⟨c', out, ev⟩, hc'⟩ := p
      dsimp only at *
      have hc9 : c' < 256 := hc'
      have hol : out.length ≤ 601 := by rw [← ev] at hl3'; simp at hl3'; omega
      repeat (first | refine stp ?_ | refine N_block_pass rfl ?_ | refine sp1 ?_ | refine sg1 ?_ | refine WL_nil ?_)
      refine W_cond rfl (by simp) (fun hr => ?_) (fun hr => ?_)
      · have hc0 : c' ≠ 0 := by simp at hr; omega
        repeat (first | refine stp ?_ | refine N_block_pass rfl ?_ | refine sp1 ?_ | refine sg1 ?_ | refine WL_nil ?_)
        refine s_litI rfl rfl rfl (by rw [hn]; rfl) (elt_mk Tryd.underlying22 rfl rfl) (zok3) (by first | trivial | (simp; done) | (simp; omega) | (simp at *; done) | (simp at *; omega)) ⟨by decide, rfl⟩ ?_
        repeat (first | refine stp ?_ | refine N_block_pass rfl ?_ | refine sp1 ?_ | refine sg1 ?_ | refine WL_nil ?_)
        refine s_appI rfl rfl rfl rfl rfl rfl (by rw [hn]; rfl) (elt_mk Tryd.underlying22 rfl rfl) rfl rfl rfl rfl (by first | trivial | (simp; done) | (simp; omega) | (simp at *; done) | (simp at *; omega)) (by first | rfl | (simp; done) | (simp; omega)) ⟨by first | (simp; done) | (simp; omega) | (simp at *; omega), by decide⟩ ?_
        repeat (first | refine stp ?_ | refine N_block_pass rfl ?_ | refine sp1 ?_ | refine sg1 ?_ | refine WL_nil ?_)
        refine N_round ⟨⟨c' / 10, out ++ [((c' % 10 : Nat) : Int)], by rw [← ev, decD_pos hc0]; simp⟩, by dsimp only; omega⟩ (by dsimp only; omega) (St.le_of ⟨⟨rfl, rfl, rfl, rfl⟩, ⟨rfl, rfl⟩⟩)
      · have hc0 : c' = 0 := by simp at hr; omega
        subst hc0
        rw [decD_zero, List.append_nil] at ev
        subst ev
        repeat (first | refine stp ?_ | refine N_block_pass rfl ?_ | refine sp1 ?_ | refine sg1 ?_ | refine WL_nil ?_)
        refine N_round ⟨i + 1, by omega⟩ (by dsimp only; omega) (St.le_of ⟨⟨rfl, ?_, rfl⟩, ⟨rfl, ?_⟩⟩)
        · rw [hnx]; rfl
        · rw [hnx]; rfl
  · have : i = s.length := by simp at hq; omega
    subst this
    rw [List.take_length] at *
    have hdw := dOf_wf (valA 0 s).toNat
    have hTx : textL be s = cond be [45] [] ++ ((dOf (valA 0 s).toNat).map (fun x => 48 + x)).reverse := by
      have hz : s = [] ↔ (valA 0 s).toNat = 0 := by
        constructor
        · intro h; rw [h]; rfl
        · intro h
          cases s with
          | nil => rfl
          | cons x t =>
            exfalso
            have hx' := hws x (List.mem_cons_self ..)
            have hx0 : x ≠ 0 := by
              rintro rfl
              have e1 : trimL (0 :: t) = trimL t := by simp [trimL]
              have := len_trim t
              rw [← e1, htt] at this
              simp at this
              omega
            have := val_nonneg t (256 * 0 + x) (by omega) (wf_tail hws)
            simp only [valA] at h
            omega
      rw [textL, dOf]
      by_cases h : s = []
      · rw [if_pos h, if_pos (hz.1 h)]; rfl
      · rw [if_neg h, if_neg (fun h' => h (hz.2 h')), decL_D _ _ (Nat.le_refl _)]
    rw [hTx]
    generalize hd : dOf (valA 0 s).toNat = d at *
    repeat (first | refine stp ?_ | refine N_block_pass rfl ?_ | refine sp1 ?_ | refine sg1 ?_ | refine WL_nil ?_)
    refine W_weaken (St.le_of (l := [(1, .c (.ptr 65 0)), (3, .c (.own 76 1 0 d.length)), (8, lv (.string (ByteArray.mk #[]))), (9, lv (.int .i64 0))]) (h := [(65, .cells [.lf (.v (.bool be)), .lf (.ints .u8 s)]), (76, .row (.ints .i64 d))]) (by refine ⟨?_, ?_⟩ <;> (repeat' (first | exact trivial | exact rfl | refine ⟨?_, ?_⟩)) <;> first | exact rfl | (simp; done) | skip)) ?_
    refine W_loop (ι := {i : Nat // i ≤ d.length}) (fun i => St.of [(1, .c (.ptr 65 0)), (3, .c (.own 76 1 0 d.length)), (8, lv (.string (strOfNums ((d.take i.1).map (fun x => 48 + x)).reverse))), (9, lv (.int .i64 (i.1 : Int)))] [(65, .cells [.lf (.v (.bool be)), .lf (.ints .u8 s)]), (76, .row (.ints .i64 d))]) (fun i => d.length - i.1) (fun i => ?_) ⟨0, by omega⟩
    obtain ⟨i, hi⟩ := i
    dsimp only
    repeat (first | refine stp ?_ | refine N_block_pass rfl ?_ | refine sp1 ?_ | refine sg1 ?_ | refine WL_nil ?_)
    refine W_cond rfl (by simp) (fun hr => ?_) (fun hr => ?_)
    · have hi8 : i < d.length := by simp at hr; omega
      have hy := hdw d[i] (List.getElem_mem hi8)
      have hgi : d.getD (0 + (i : Int).toNat) 0 = d[i] := by simp [hi8]
      have hTi : d.take (i + 1) = d.take i ++ [d[i]] := by rw [List.take_add_one, List.getElem?_eq_getElem hi8]; rfl
      repeat (first | refine stp ?_ | refine N_block_pass rfl ?_ | refine sp1 ?_ | refine sg1 ?_ | refine WL_nil ?_)
      rw [hgi]
      repeat (first | refine stp ?_ | refine N_block_pass rfl ?_ | refine sp1 ?_ | refine sg1 ?_ | refine WL_nil ?_)
      refine s_litI rfl rfl rfl (by rw [hn]; rfl) (elt_mk Tryd.underlying28 rfl rfl) (zok5) (by first | trivial | (simp; done) | (simp; omega) | (simp at *; done) | (simp at *; omega)) ⟨by decide, rfl⟩ ?_
      repeat (first | refine stp ?_ | refine N_block_pass rfl ?_ | refine sp1 ?_ | refine sg1 ?_ | refine WL_nil ?_)
      refine WL_q (opq_of (opy_str rfl Tryd.underlying28 Tryd.underlying5 Tryd.underlying9 rfl (by first | trivial | (simp; done) | (simp; omega) | (simp at *; done) | (simp at *; omega))) rfl) (by rw [hn]; rfl) ?_
      repeat (first | refine stp ?_ | refine N_block_pass rfl ?_ | refine sp1 ?_ | refine sg1 ?_ | refine WL_nil ?_)
      refine N_round ⟨i + 1, by omega⟩ (by dsimp only; omega) (St.le_of ⟨⟨rfl, rfl, ?_, rfl⟩, ⟨rfl, rfl⟩⟩)
      show lv (.string (strOfNums [48 + d[i]] ++ strOfNums ((d.take i).map (fun x => 48 + x)).reverse)) = lv (.string (strOfNums ((d.take (i + 1)).map (fun x => 48 + x)).reverse))
      rw [app_str, hTi, List.map_append, List.reverse_append]
      rfl
    · have : i = d.length := by simp at hr; omega
      subst this
      rw [List.take_length]
      repeat (first | refine stp ?_ | refine N_block_pass rfl ?_ | refine sp1 ?_ | refine sg1 ?_ | refine WL_nil ?_)
      refine W_cond rfl (by simp) (fun hr => ?_) (fun hr => ?_)
      · subst hr
        repeat (first | refine stp ?_ | refine N_block_pass rfl ?_ | refine sp1 ?_ | refine sg1 ?_ | refine WL_nil ?_)
        refine sp true rfl rfl (by rw [hn]; rfl) ?_ ?_
        · have e1 : (ByteArray.mk #[45]).size = 1 := rfl
          have e2 : (strOfNums (d.map (fun x => 48 + x)).reverse).size = d.length := by rw [size_str]; simp
          show (ByteArray.mk #[45]).size + (strOfNums (d.map (fun x => 48 + x)).reverse).size ≤ 9223372036854775807
          rw [e1, e2]
          omega
        repeat (first | refine stp ?_ | refine N_block_pass rfl ?_ | refine sp1 ?_ | refine sg1 ?_ | refine WL_nil ?_)
        refine rt2 [] ?_ ?_
        · show lv (.string (strOfNums [45] ++ strOfNums (d.map (fun x => 48 + x)).reverse)) = lv (.string (strOfNums ([45] ++ (d.map (fun x => 48 + x)).reverse)))
          rw [app_str]
        · trivial
      · subst hr
        repeat (first | refine stp ?_ | refine N_block_pass rfl ?_ | refine sp1 ?_ | refine sg1 ?_ | refine WL_nil ?_)
        exact rt1 []
end Go.Proofs.YthalijmfhllgbaaDoor

namespace Go.Proofs.YthalijmfhllgbaaDoor
set_option linter.unusedSimpArgs false
set_option linter.unusedVariables false
open Go.Sx

set_option maxRecDepth 10000

/-- A number's decimal text, as bytes; as a string. -/
def decT (n : Nat) : List Int := if n = 0 then [48] else (decL n).reverse
def refS (x : Int) : ByteArray := strOfNums (decT (x.toNat % 2147483648))
theorem decT_len {n : Nat} (h : n < 2147483648) : (decT n).length ≤ 10 := by
  unfold decT
  split
  · simp
  · rw [List.length_reverse]
    exact decL_len 10 n (by omega)
theorem decT_pos (n : Nat) : 0 < (decT n).length := by
  unfold decT
  split
  · simp
  · rename_i h
    rw [List.length_reverse, decL_pos h]
    simp
theorem refS_size (x : Int) : (refS x).size ≤ 20 := by
  rw [refS, size_str]
  have := decT_len (n := x.toNat % 2147483648) (by omega)
  omega
theorem refS_pos (x : Int) : 0 < (refS x).size := by
  rw [refS, size_str]
  exact decT_pos _
theorem refS_eq {x : Int} (h : 0 ≤ x ∧ x ≤ 2147483647) : refS x = strOfNums (decT x.toNat) := by
  have e : x.toNat % 2147483648 = x.toNat := by omega
  rw [refS, e]
theorem decDig : ∀ k u : Nat, u ≤ k → Lib.decDigits u = (decT u).map fun x => UInt8.ofNat x.toNat
  | 0, u, h => by
    have : u = 0 := by omega
    subst this
    rw [Lib.decDigits, dif_pos (by omega)]
    rfl
  | k + 1, u, h => by
    by_cases h1 : u < 10
    · rw [Lib.decDigits, dif_pos h1]
      unfold decT
      split
      · rename_i h2; subst h2; rfl
      · rename_i h2
        have h3 : u / 10 = 0 := by omega
        have h4 : u % 10 = u := by omega
        rw [decL_pos h2, h3, h4, decL_zero]
        show [UInt8.ofNat (48 + u)] = [UInt8.ofNat (48 + (u : Int)).toNat]
        rw [show (48 + (u : Int)).toNat = 48 + u by omega]
    · rw [Lib.decDigits, dif_neg h1, decDig k (u / 10) (by omega)]
      have h2 : u ≠ 0 := by omega
      have h3 : u / 10 ≠ 0 := by omega
      rw [decT, decT, if_neg h2, if_neg h3, decL_pos h2, List.reverse_cons, List.map_append]
      refine congrArg (_ ++ ·) ?_
      show [UInt8.ofNat (48 + u % 10)] = [UInt8.ofNat (48 + ((u % 10 : Nat) : Int)).toNat]
      rw [show (48 + ((u % 10 : Nat) : Int)).toNat = 48 + u % 10 by omega]
theorem itoa_ref {x : Int} (h : 0 ≤ x ∧ x ≤ 2147483647) : (⟨(Lib.itoa x).toArray⟩ : ByteArray) = refS x := by
  rw [refS_eq h, Lib.itoa, if_neg (by omega), decDig _ _ (Nat.le_refl _)]
  rfl
theorem textL_dec {k : Int} (h : 0 ≤ k ∧ k ≤ 2147483647) : textL (decide (k < 0)) (digL k.natAbs) = decT k.toNat := by
  have e1 : k.natAbs = k.toNat := by omega
  have e2 : decide (k < 0) = false := by simp; omega
  have d3 := (dig_spec k.toNat k.toNat (Nat.le_refl _)).2.2
  rw [e1, e2, textL, decT, d3]
  simp only [cond_false, List.nil_append, Int.toNat_natCast]
  by_cases h0 : k.toNat = 0
  · rw [h0, dig_zero]; simp
  · rw [if_neg h0, if_neg]
    intro h2
    rw [h2] at d3
    simp [valA] at d3
    omega
theorem right_in {o : List Int} (hr : rightO o = true) : ∀ x ∈ o, 0 ≤ x ∧ x ≤ 2147483647 := by
  match o, hr with
  | a :: b :: t, hr =>
    rw [rightO_cons] at hr
    split at hr
    · cases hr
    · split at hr
      · cases hr
      · rename_i h
        simp only [Bool.not_eq_true', Bool.not_eq_false, Bool.not_eq_true] at h
        intro x hx
        have := List.all_eq_true.1 (by simpa using h) x hx
        simp [inR] at this
        omega
theorem right_len {o : List Int} (hr : rightO o = true) : o.length ≤ 32 ∧ 2 ≤ o.length := by
  obtain ⟨a, b, t, rfl, _, _, _, _, ht, _⟩ := right_nums hr
  simp; omega
theorem textO_one (f : Int → ByteArray) {o : List Int} (h : 0 < o.length) : textO f (o.take 1) = strL (f (o.getD 0 0)) := by
  match o, h with
  | x :: t, _ => simp [textO]
theorem app_strL (a : List Int) (s : ByteArray) : strOfNums a ++ s = strOfNums (a ++ strL s) := by
  obtain ⟨l, rfl, hw, _⟩ := str_of s
  rw [app_str, show strL (strOfNums l) = l from bs_str hw]
theorem refNum_ok {x : Int} (h : 0 ≤ x ∧ x ≤ 2147483647) : Ct Tryd.prog 44 [numA (decide (x < 0)) (digL x.natAbs)] [] (lv (.string (refS x))) [] [] := by
  have hd := dig_len 8 x.natAbs (by omega)
  have hw := (dig_spec x.natAbs x.natAbs (Nat.le_refl _)).1
  have ht := reftext_ok (decide (x < 0)) (digL x.natAbs) (by omega) hw
  have hmb : madeB (decide (x < 0)) (digL x.natAbs) = decide (x < 0) := by
    have h0 := made_idem (decide (x < 0)) (patL (ofMag x))
    rwa [of_below x (by omega) (by omega), of_digits x (by omega) (by omega)] at h0
  rwa [hmb, dig_trim, textL_dec h, ← refS_eq h] at ht
theorem refText_ok (o : List Int) (hr : rightO o = true) : Ct Tryd.prog 22 [I64 o] [] (lv (.string (strOfNums (textO refS o)))) [] [] := by
  have hl := right_len hr
  have hin := right_in hr
  refine Ct_intro Tryd.func22 rfl rfl rfl rfl rfl (fun E hn hb => ?_)
  repeat (first | refine stp ?_ | refine N_block_pass rfl ?_ | refine sp1 ?_ | refine sg1 ?_ | refine WL_nil ?_)
  refine W_weaken (St.le_of (l := [(0, I64 o), (3, lv (.string (ByteArray.mk #[]))), (4, lv (.int .i64 ((0 : Nat) : Int)))]) (h := []) (by refine ⟨?_, ?_⟩ <;> (repeat' (first | exact trivial | exact rfl | refine ⟨?_, ?_⟩)) <;> first | exact rfl | (simp; done) | skip)) ?_
  refine W_loop (ι := {i : Nat // i ≤ o.length}) (fun i => St.of [(0, I64 o), (3, lv (.string (strOfNums (textO refS (o.take i.1))))), (4, lv (.int .i64 (i.1 : Int)))] []) (fun i => o.length - i.1) (fun i => ?_) ⟨0, by omega⟩
  obtain ⟨i, hi⟩ := i
  dsimp only
  generalize hacc : textO refS (o.take i) = acc
  repeat (first | refine stp ?_ | refine N_block_pass rfl ?_ | refine sp1 ?_ | refine sg1 ?_ | refine WL_nil ?_)
  refine W_cond rfl (by simp) (fun hc => ?_) (fun hc => ?_)
  · have hi2 : i < o.length := by simpa using hc
    have hal : acc.length ≤ 1000 := by
      have := textO_len refS refS_size (o.take i)
      rw [hacc] at this
      simp at this
      omega
    have hxi : o.getD i 0 ∈ o := by rw [List.getD_eq_getElem?_getD, List.getElem?_eq_getElem hi2]; exact List.getElem_mem hi2
    have hxb := hin _ hxi
    have hof := refof_ok (o.getD i 0) (by omega) (by omega)
    have htx := refNum_ok hxb
    have hsx := refS_size (o.getD i 0)
    clear hxi hin
    match i, hi, hacc, hi2, hxb, hof, htx, hsx with
    | 0, hi, hacc, hi2, hxb, hof, htx, hsx =>
      have he0 : acc = [] := hacc.symm
      subst he0
      have hnext := textO_one refS hi2
      generalize hX : o.getD 0 0 = x at *
      generalize hFX : refS x = F at *
      generalize hD : digL x.natAbs = D at *
      generalize hB : decide (x < 0) = B at *
      repeat (first | refine stp ?_ | refine N_block_pass rfl ?_ | refine sp1 ?_ | refine sg1 ?_ | refine WL_nil ?_)
      refine W_cond rfl (by simp) (fun h2 => ?_) (fun h2 => ?_)
      · simp at h2
      repeat (first | refine stp ?_ | refine N_block_pass rfl ?_ | refine sp1 ?_ | refine sg1 ?_ | refine WL_nil ?_)
      rw [show o.getD (Int.toNat ((0 : Nat) : Int)) 0 = x from hX]
      refine s_call0 hof rfl rfl rfl (by rw [hn]; rfl) rfl rfl (by first | trivial | (simp; done) | (simp; omega) | (simp at *; done) | (simp at *; omega)) rfl rfl rfl ?_
      repeat (first | refine stp ?_ | refine N_block_pass rfl ?_ | refine sp1 ?_ | refine sg1 ?_ | refine WL_nil ?_)
      refine s_call0 htx rfl rfl rfl (by rw [hn]; rfl) rfl rfl (by first | trivial | (simp; done) | (simp; omega) | (simp at *; done) | (simp at *; omega)) rfl rfl rfl ?_
      repeat (first | refine stp ?_ | refine N_block_pass rfl ?_ | refine sp1 ?_ | refine sg1 ?_ | refine WL_nil ?_)
      refine N_round ⟨0 + 1, by omega⟩ (by dsimp only; omega) (St.le_of ⟨⟨rfl, ?_, rfl⟩, trivial⟩)
      show lv (.string (strOfNums [] ++ F)) = lv (.string (strOfNums (textO refS (o.take 1))))
      rw [hnext, app_strL]; rfl
    | i + 1, hi, hacc, hi2, hxb, hof, htx, hsx =>
      have hnext := textO_take refS hi2 (by omega)
      rw [hacc] at hnext
      generalize hX : o.getD (i + 1) 0 = x at *
      generalize hFX : refS x = F at *
      generalize hD : digL x.natAbs = D at *
      generalize hB : decide (x < 0) = B at *
      repeat (first | refine stp ?_ | refine N_block_pass rfl ?_ | refine sp1 ?_ | refine sg1 ?_ | refine WL_nil ?_)
      refine W_cond rfl (by simp) (fun h2 => ?_) (fun h2 => ?_)
      · repeat (first | refine stp ?_ | refine N_block_pass rfl ?_ | refine sp1 ?_ | refine sg1 ?_ | refine WL_nil ?_)
        refine sp true rfl rfl (by rw [hn]; rfl) ?_ ?_
        · show (strOfNums acc).size + (ByteArray.mk #[46]).size ≤ 9223372036854775807
          rw [size_str, show (ByteArray.mk #[46]).size = 1 from rfl]
          omega
        rw [show strOfNums acc ++ ByteArray.mk #[46] = strOfNums (acc ++ [46]) from app_str acc [46]]
        repeat (first | refine stp ?_ | refine N_block_pass rfl ?_ | refine sp1 ?_ | refine sg1 ?_ | refine WL_nil ?_)
        rw [show o.getD (Int.toNat ((i + 1 : Nat) : Int)) 0 = x from hX]
        refine s_call0 hof rfl rfl rfl (by rw [hn]; rfl) rfl rfl (by first | trivial | (simp; done) | (simp; omega) | (simp at *; done) | (simp at *; omega)) rfl rfl rfl ?_
        repeat (first | refine stp ?_ | refine N_block_pass rfl ?_ | refine sp1 ?_ | refine sg1 ?_ | refine WL_nil ?_)
        refine s_call0 htx rfl rfl rfl (by rw [hn]; rfl) rfl rfl (by first | trivial | (simp; done) | (simp; omega) | (simp at *; done) | (simp at *; omega)) rfl rfl rfl ?_
        repeat (first | refine stp ?_ | refine N_block_pass rfl ?_ | refine sp1 ?_ | refine sg1 ?_ | refine WL_nil ?_)
        refine N_round ⟨i + 1 + 1, by omega⟩ (by dsimp only; omega) (St.le_of ⟨⟨rfl, ?_, rfl⟩, trivial⟩)
        show lv (.string (strOfNums (acc ++ [46]) ++ F)) = lv (.string (strOfNums (textO refS (o.take (i + 1 + 1)))))
        rw [hnext, app_strL, List.append_assoc]; rfl
      · simp at h2
  · have hi2 : i = o.length := by simp at hc; omega
    subst hi2
    rw [List.take_length] at hacc
    subst hacc
    repeat (first | refine stp ?_ | refine N_block_pass rfl ?_ | refine sp1 ?_ | refine sg1 ?_ | refine WL_nil ?_)
    exact rt1 []
end Go.Proofs.YthalijmfhllgbaaDoor

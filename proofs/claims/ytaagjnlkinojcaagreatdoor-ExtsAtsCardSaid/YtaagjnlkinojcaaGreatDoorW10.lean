/-
  A row turned about, in place. The conditions: rows of at most a million bytes.
-/
import Derived.Test.YtaagjnlkinojcaaGreatDoorTy
import Derived.Test.YtaagjnlkinojcaaGreatDoorC1
import Derived.Test.YtaagjnlkinojcaaGreatDoorSxX
namespace Go.Proofs.YtaagjnlkinojcaaGreatDoor
set_option linter.unusedSimpArgs false
set_option linter.unusedVariables false
open Go.Sx
set_option maxRecDepth 10000
abbrev B8 (l : List Int) : Av := .c (.lf (.ints .u8 l))
theorem clone_own (l : List Int) (hl : l.length ≤ 1000000) : Ct Tryz.prog 94 [B8 l] [] (.c (.own 0 1 0 l.length)) [] [.row (.ints .u8 l)] := by
 refine Ct_intro Tryz.func94 rfl rfl rfl rfl rfl (fun E hn hb => ?_)
 repeat (refine nst ?_)
 refine s_nilS (neg := false) rfl rfl (by rw [hn]; rfl) Tryz.underlying22 rfl (by simp) (by simp [szD]) (fun b hbl => ?_)
 simp [lenD] at hbl
 repeat (refine nst ?_)
 refine W_cond rfl (by simp) (fun hc => ?_) (fun hc => ?_)
 · have := hbl hc
   subst this
   repeat (refine nst ?_)
   refine N_own_nil 2 64 1 (.ints .u8 []) rfl rfl (.inl rfl) ?_
   exact N_ret [64] rfl trivial ⟨rfl, trivial, rfl, rfl⟩ hb rfl trivial
 · repeat (refine nst ?_)
   refine s_litI rfl rfl rfl (by rw [hn]; rfl) (elt_mk Tryz.underlying22 rfl rfl) (zok5) (by exact vcs) ⟨by decide, rfl⟩ ?_
   repeat (refine nst ?_)
   refine s_appI rfl rfl rfl rfl rfl rfl (by rw [hn]; rfl) (elt_mk Tryz.underlying22 rfl rfl) rfl rfl rfl rfl (by exact vcs) (by first | rfl | (simp; done) | (simp; omega)) ⟨by first | (simp; done) | (simp; omega) | (simp at *; omega), by decide⟩ ?_
   repeat (refine nst ?_)
   exact N_ret [69] rfl trivial ⟨rfl, trivial, rfl, rfl⟩ hb rfl trivial
theorem clone_ok (l : List Int) (hl : l.length ≤ 1000000) : Ct Tryz.prog 94 [B8 l] [] (B8 l) [] [] :=
 (clone_own l hl).freeze ⟨rfl, rfl, rfl, by simp, by simp⟩ rfl
def cmpL : List Int → List Int → Int
 | [], [] => 0
 | [], _ :: _ => -1
 | _ :: _, [] => 1
 | x :: a, y :: b => if x < y then -1 else if y < x then 1 else cmpL a b
set_option maxHeartbeats 4000000 in
theorem compare_ok (a b : List Int) (ha : a.length ≤ 1000000) (hb' : b.length ≤ 1000000) : Ct Tryz.prog 62 [B8 a, B8 b] [] (lv (.int .i64 (cmpL a b))) [] [] := by
 refine Ct_intro Tryz.func62 rfl rfl rfl rfl rfl (fun E hn hb => ?_)
 repeat (refine nst ?_)
 refine W_weaken (St.le_of (l := [(0, B8 a), (1, B8 b), (5, lv (.int .i64 0))]) (h := []) (by refine ⟨?_, ?_⟩ <;> (repeat' (first | exact trivial | exact rfl | refine ⟨?_, ?_⟩)) <;> first | exact rfl | (simp; done) | skip)) ?_
 refine W_loop (ι := {i : Nat // i ≤ 1000000 ∧ cmpL (a.drop i) (b.drop i) = cmpL a b}) (fun i => St.of [(0, B8 a), (1, B8 b), (5, lv (.int .i64 (i.1 : Int)))] []) (fun i => 1000001 - i.1) (fun i => ?_) ⟨0, by omega, rfl⟩
 obtain ⟨i, hi, he⟩ := i
 dsimp only
 repeat (refine nst ?_)
 refine W_cond rfl (by simp) (fun hc => ?_) (fun hc => ?_)
 · simp at hc
   repeat (refine nst ?_)
   refine W_drawW 21 (by kernel_rfl) (by kernel_rfl) (by kernel_rfl) (by rw [hn]; rfl) rfl rfl ?_
   repeat (first | refine dp1 ?_ | refine dg1 ?_ | refine DrawW_nil ?_)
   repeat (refine nst ?_)
   have key : ∀ x : List Int, i < x.length → x.drop i = x.getD i 0 :: x.drop (i + 1) := fun x h => by
     rw [List.drop_eq_getElem_cons h]; simp [h]
   refine W_cond rfl (by simp) (fun hd => ?_) (fun hd => ?_)
   · repeat (refine nst ?_)
     refine rt2 [] ?_ ?_
     · have : cmpL a b = -1 := by
         rw [← he]
         by_cases h1 : i < a.length
         · have h2 : i < b.length ∧ a.getD i 0 < b.getD i 0 := by
             have : ¬ a.length ≤ i := by omega
             simpa [this, Bool.cond_eq_ite] using hd
           rw [key a h1, key b h2.1]
           simp only [cmpL, h2.2, if_true]
         · rw [List.drop_eq_nil_of_le (by omega), key b (by omega)]; rfl
       rw [this]; rfl
     · trivial
   · repeat (refine nst ?_)
     have hia : i < a.length ∧ (i < b.length → ¬ a.getD i 0 < b.getD i 0) := by
       rcases Nat.lt_or_ge i a.length with h | h
       · have : ¬ a.length ≤ i := by omega
         refine ⟨h, fun hib => ?_⟩
         simpa [this, hib, Bool.cond_eq_ite] using hd
       · simp [h, Bool.cond_eq_ite] at hd
     clear hd
     refine W_drawW 15 (by kernel_rfl) (by kernel_rfl) (by kernel_rfl) (by rw [hn]; rfl) rfl rfl ?_
     repeat (first | refine dp1 ?_ | refine dg1 ?_ | refine DrawW_nil ?_)
     repeat (refine nst ?_)
     refine W_cond rfl (by simp) (fun hd => ?_) (fun hd => ?_)
     · repeat (refine nst ?_)
       refine rt2 [] ?_ ?_
       · have : cmpL a b = 1 := by
           rw [← he, key a hia.1]
           by_cases h1 : i < b.length
           · have h2 : b.getD i 0 < a.getD i 0 := by
               have : ¬ b.length ≤ i := by omega
               simpa [this, Bool.cond_eq_ite] using hd
             rw [key b h1]
             simp only [cmpL, hia.2 h1, h2, if_true, if_false]
           · rw [List.drop_eq_nil_of_le (by omega : b.length ≤ i)]; rfl
         rw [this]; rfl
       · trivial
     · repeat (refine nst ?_)
       have h1 : i < b.length ∧ ¬ b.getD i 0 < a.getD i 0 := by
         rcases Nat.lt_or_ge i b.length with h | h
         · have : ¬ b.length ≤ i := by omega
           refine ⟨h, ?_⟩
           simpa [this, Bool.cond_eq_ite] using hd
         · simp [h, Bool.cond_eq_ite] at hd
       (refine N_round ?i1 ?i2 ?i3; (case i1 => exact ⟨i + 1, by omega, by rw [← he, key a hia.1, key b h1.1]; simp only [cmpL, hia.2 h1.1, h1.2, if_false]⟩); (case i2 => (dsimp only; omega)); (case i3 => refine St.le_of ⟨?_, ?_⟩ <;> (repeat' (first | exact trivial | exact rfl | refine ⟨?_, ?_⟩)) <;> first | exact rfl | (simp; done) | skip))
 · repeat (refine nst ?_)
   refine rt2 [] ?_ ?_
   · have : cmpL a b = 0 := by
       rw [← he, List.drop_eq_nil_of_le (by simp at hc; omega), List.drop_eq_nil_of_le (by simp at hc; omega)]; rfl
     rw [this]; rfl
   · trivial
theorem cmpL_eq : ∀ a b : List Int, cmpL a b = 0 ↔ a = b
 | [], [] => by simp [cmpL]
 | [], y :: b => by simp [cmpL]
 | x :: a, [] => by simp [cmpL]
 | x :: a, y :: b => by
   simp only [cmpL, List.cons.injEq]
   rw [← cmpL_eq a b]
   split
   · simp; omega
   · split
     · simp; omega
     · have : x = y := by omega
       simp [this]
theorem same_ok (a b : List Int) (ha : a.length ≤ 1000000) (hb' : b.length ≤ 1000000) : Ct Tryz.prog 22 [B8 a, B8 b] [] (lv (.bool (decide (a = b)))) [] [] := by
 refine Ct_intro Tryz.func22 rfl rfl rfl rfl rfl (fun E hn hb => ?_)
 repeat (refine nst ?_)
 refine s_call0 (compare_ok a b ha hb') rfl rfl rfl (by rw [hn]; rfl) rfl rfl (by exact vcs) rfl rfl rfl ?_
 repeat (refine nst ?_)
 refine rt2 [] ?_ ?_
 · have : (cmpL a b == 0) = decide (a = b) := by
     rw [Bool.eq_iff_iff]; simp [cmpL_eq]
   rw [← this]; rfl
 · trivial

theorem curnew_ok (l : List Int) (hl : l.length ≤ 1000000) : Ct Tryz.prog 7 [B8 l] [] (.c (.ptr 0 0)) [] [curB l 0] := by
 refine Ct_intro Tryz.func7 rfl rfl rfl rfl rfl (fun E hn hb => ?_)
 repeat (refine nst ?_)
 refine s_boxN rfl rfl rfl (by rw [hn]; rfl) rfl (by exact vcs) rfl rfl ?_
 repeat (refine nst ?_)
 refine s_makeI (by_ := 1) rfl rfl rfl (by rw [hn]; rfl) (elt_mk Tryz.underlying22 rfl rfl) rfl rfl rfl (by exact vcs) l.length (by first | rfl | (simp; done) | omega) (by first | (simp; done) | omega | (simp at *; omega)) ?_
 repeat (refine nst ?_)
 refine s_storeN rfl rfl rfl rfl rfl (by exact vcs) rfl rfl rfl (by rw [cellsOf22]; rfl) (by rw [info22]; rfl) rfl rfl ?_
 repeat (refine nst ?_)
 refine s_copyI rfl rfl rfl rfl rfl rfl (by rw [hn]; rfl) (elt_mk Tryz.underlying22 rfl rfl) rfl rfl rfl (by exact vcs) (by first | (simp; done) | (simp; omega) | (simp at *; omega)) ?_
 have e4 : List.take 0 (List.replicate l.length (0 : Int)) ++ List.take l.length l ++ List.drop (0 + (List.take l.length l).length) (List.replicate l.length (0 : Int)) = l := by
   simp
 rw [e4]
 refine WL_sr (fun a w h => SR.freezeC (d := .ints .u8 l) (cs := [.own 73 1 0 l.length, .lf (.v (.int .i64 0))]) (cs' := [.lf (.ints .u8 l), .lf (.v (.int .i64 0))]) 73 69 rfl rfl rfl (by rw [hb]; decide) (fun i hi => by rw [hb] at hi; exact absurd hi (Nat.not_lt_zero _)) ⟨⟨rfl, rfl, rfl, by omega, by rw [List.drop_zero, List.take_length]⟩, rfl, trivial⟩ h) ?_
 repeat (refine nst ?_)
 exact rt1 [69]
theorem byte_ok (l : List Int) (p : Nat) (hp : p < l.length) (hl : l.length ≤ 1000000) : Ct Tryz.prog 128 [.c (.ptr 0 0)] [curB l p] (.tup [lv (.int .u8 (l.getD p 0)), lv (.int .i64 0)]) [curB l (p + 1)] [] := by
 have e : ((p : Int) + 1) = ((p + 1 : Nat) : Int) := by omega
 refine Ct_intro Tryz.func128 rfl rfl rfl rfl rfl (fun E hn hb => ?_)
 repeat (refine nst ?_)
 refine WL_q (opq_of (opy_callL (peek_ok l p hp (by omega)) rfl rfl rfl (by exact vcs) ⟨.inr (.inr ⟨0, 0, _, _, rfl, rfl, rfl, rfl⟩), trivial⟩ rfl) rfl) (by rw [hn]; rfl) ?_
 repeat (refine nst ?_)
 refine W_cond rfl (by simp) (fun h1 => ?_) (fun h1 => ?_)
 · repeat (refine nst ?_)
   refine s_storeN rfl rfl rfl rfl rfl (by exact vcs) rfl rfl rfl (by rw [cellsOf3]; rfl) (by rw [info3]; rfl) rfl rfl ?_
   repeat (refine nst ?_)
   refine rt2 [] ?_ ?_
   · rfl
   · trivial
 · simp at h1
theorem byte_end (l : List Int) (hl : l.length ≤ 1000000) : Ct Tryz.prog 128 [.c (.ptr 0 0)] [curB l l.length] (.tup [lv (.int .u8 0), lv (.int .i64 3)]) [curB l l.length] [] := by
 refine Ct_intro Tryz.func128 rfl rfl rfl rfl rfl (fun E hn hb => ?_)
 repeat (refine nst ?_)
 refine WL_q (opq_of (opy_callL (peek_end l (by omega)) rfl rfl rfl (by exact vcs) ⟨.inr (.inr ⟨0, 0, _, _, rfl, rfl, rfl, rfl⟩), trivial⟩ rfl) rfl) (by rw [hn]; rfl) ?_
 repeat (refine nst ?_)
 refine W_cond rfl (by simp) (fun h1 => ?_) (fun h1 => ?_)
 · simp at h1
 · repeat (refine nst ?_)
   exact rt1 []
theorem take_ok (l : List Int) (p n : Nat) (hp : p + n ≤ l.length) (hl : l.length ≤ 1000000) : Ct Tryz.prog 103 [.c (.ptr 0 0), lv (.int .i64 (n : Int))] [curB l p] (.tup [B8 ((l.drop p).take n), lv (.int .i64 0)]) [curB l (p + n)] [] := by
 have e : mayF l p n = 0 := by rw [mayF, if_neg (by omega), if_neg (by omega)]
 have hm := may_ok l p n (by omega) (by omega)
 rw [e] at hm
 have hlen : ((l.drop p).take n).length = n := by simp; omega
 refine Ct_intro Tryz.func103 rfl rfl rfl rfl rfl (fun E hn hb => ?_)
 repeat (refine nst ?_)
 refine WL_q (opq_of (opy_callL (hm) rfl rfl rfl (by exact vcs) ⟨.inr (.inr ⟨0, 0, _, _, rfl, rfl, rfl, rfl⟩), .inl rfl, trivial⟩ rfl) rfl) (by rw [hn]; rfl) ?_
 repeat (refine nst ?_)
 refine W_cond rfl (by simp) (fun h1 => ?_) (fun h1 => ?_)
 · simp at h1
 repeat (refine nst ?_)
 refine W_drawP (by kernel_rfl) (by kernel_rfl) (by rw [hn]; rfl) ?_
 repeat (first | refine dp1 ?_ | refine dg1 ?_ | refine DrawW_nil ?_)
 refine DrawW_cons rfl (ops_of (opys_callF (cut_ok l p p n hp hl) rfl rfl rfl (by exact vcs) ⟨.inr (.inr ⟨0, 0, _, _, rfl, rfl, rfl, rfl⟩), .inl rfl, .inl rfl, trivial⟩ rfl (by first | (simp; done) | (simp; omega) | omega)) rfl) ?_
 repeat (first | refine dp1 ?_ | refine dg1 ?_ | refine DrawW_nil ?_)
 repeat (refine nst ?_)
 refine s_storeN rfl rfl rfl rfl rfl (by exact vcs) rfl rfl rfl (by rw [cellsOf3]; rfl) (by rw [info3]; rfl) rfl rfl ?_
 repeat (refine nst ?_)
 refine rt2 [] ?_ ?_
 · show Av.tup [B8 ((((l.drop p).take n).drop 0).take n), lv (.int .i64 0)] = _
   rw [List.drop_zero, List.take_of_length_le (by omega)]
   rfl
 · trivial
theorem take_err (l : List Int) (p : Nat) (n : Int) (h0 : 0 ≤ n) (hp : p ≤ l.length) (hn : (l.length : Int) - p < n) (hl : l.length ≤ 1000000) : Ct Tryz.prog 103 [.c (.ptr 0 0), lv (.int .i64 n)] [curB l p] (.tup [.c (.lf (.v (.slice none 0 0))), lv (.int .i64 3)]) [curB l p] [] := by
 have e : mayF l p n = 3 := by rw [mayF, if_neg (by omega), if_pos hn]
 have hm := may_ok l p n (by omega) (by omega)
 rw [e] at hm
 refine Ct_intro Tryz.func103 rfl rfl rfl rfl rfl (fun E hn hb => ?_)
 repeat (refine nst ?_)
 refine WL_q (opq_of (opy_callL (hm) rfl rfl rfl (by exact vcs) ⟨.inr (.inr ⟨0, 0, _, _, rfl, rfl, rfl, rfl⟩), .inl rfl, trivial⟩ rfl) rfl) (by rw [hn]; rfl) ?_
 repeat (refine nst ?_)
 refine W_cond rfl (by simp) (fun h1 => ?_) (fun h1 => ?_)
 · repeat (refine nst ?_)
   exact rt1 []
 · simp at h1
theorem back_ok (l : List Int) (p q : Nat) (hq : q ≤ p) (hl : p ≤ 1000000) : Ct Tryz.prog 71 [.c (.ptr 0 0), lv (.int .i64 (q : Int))] [curB l p] (lv (.int .i64 0)) [curB l q] [] := by
 refine Ct_intro Tryz.func71 rfl rfl rfl rfl rfl (fun E hn hb => ?_)
 repeat (refine nst ?_)
 refine WL_q (opq_of (opy_nilP (neg := false) rfl rfl rfl rfl (by exact vcs)) rfl) (by rw [hn]; rfl) ?_
 repeat (refine nst ?_)
 refine W_cond rfl (by simp) (fun h1 => ?_) (fun h1 => ?_)
 · simp at h1
 repeat (refine nst ?_)
 refine W_cond rfl (by simp) (fun h1 => ?_) (fun h1 => ?_)
 · simp at h1; omega
 repeat (refine nst ?_)
 refine s_storeN rfl rfl rfl rfl rfl (by exact vcs) rfl rfl rfl (by rw [cellsOf3]; rfl) (by rw [info3]; rfl) rfl rfl ?_
 repeat (refine nst ?_)
 exact rt1 []
theorem rest_ok (l : List Int) (p : Nat) (hp : p ≤ l.length) (hl : l.length ≤ 1000000) : Ct Tryz.prog 77 [.c (.ptr 0 0)] [curB l p] (B8 (l.drop p)) [curB l l.length] [] := by
 have hc := cut_ok l p p (l.length - p) (by omega) hl
 have e : ((p : Int) + ((l.length - p : Nat) : Int)) = (l.length : Int) := by omega
 rw [e] at hc
 have e2 : (((l.drop p).take (l.length - p)).drop 0).take (l.length - p) = l.drop p := by
   rw [List.drop_zero, List.take_take, Nat.min_self, List.take_of_length_le (by simp)]
 refine Ct_intro Tryz.func77 rfl rfl rfl rfl rfl (fun E hn hb => ?_)
 repeat (refine nst ?_)
 refine WL_q (opq_of (opy_nilP (neg := false) rfl rfl rfl rfl (by exact vcs)) rfl) (by rw [hn]; rfl) ?_
 repeat (refine nst ?_)
 refine W_cond rfl (by simp) (fun h1 => ?_) (fun h1 => ?_)
 · simp at h1
 repeat (refine nst ?_)
 refine W_drawP (by kernel_rfl) (by kernel_rfl) (by rw [hn]; rfl) ?_
 repeat (first | refine dp1 ?_ | refine dg1 ?_ | refine DrawW_nil ?_)
 refine DrawW_cons rfl (ops_of (opys_callL (size_ok l p) rfl rfl rfl (by exact vcs) ⟨.inr (.inr ⟨0, 0, _, _, rfl, rfl, rfl, rfl⟩), trivial⟩ rfl) rfl) ?_
 repeat (first | refine dp1 ?_ | refine dg1 ?_ | refine DrawW_nil ?_)
 refine DrawW_cons rfl (ops_of (opys_callF (hc) rfl rfl rfl (by exact vcs) ⟨.inr (.inr ⟨0, 0, _, _, rfl, rfl, rfl, rfl⟩), .inl rfl, .inl rfl, trivial⟩ rfl (by first | (simp; done) | (simp; omega) | omega)) rfl) ?_
 repeat (first | refine dp1 ?_ | refine dg1 ?_ | refine DrawW_nil ?_)
 repeat (refine nst ?_)
 refine WL_q (opq_of (opy_callL (size_ok l p) rfl rfl rfl (by exact vcs) ⟨.inr (.inr ⟨0, 0, _, _, rfl, rfl, rfl, rfl⟩), trivial⟩ rfl) rfl) (by rw [hn]; rfl) ?_
 repeat (refine nst ?_)
 refine s_storeN rfl rfl rfl rfl rfl (by exact vcs) rfl rfl rfl (by rw [cellsOf3]; rfl) (by rw [info3]; rfl) rfl rfl ?_
 repeat (refine nst ?_)
 refine rt2 [] ?_ ?_
 · show B8 ((((l.drop p).take (l.length - p)).drop 0).take (l.length - p)) = _
   rw [e2]
   rfl
 · trivial
theorem sub_ok (l : List Int) (p n : Nat) (hp : p + n ≤ l.length) (hl : l.length ≤ 1000000) : Ct Tryz.prog 75 [.c (.ptr 0 0), lv (.int .i64 (n : Int))] [curB l p] (.tup [.c (.ptr 1 0), lv (.int .i64 0)]) [curB l (p + n)] [curB ((l.drop p).take n) 0] := by
 refine Ct_intro Tryz.func75 rfl rfl rfl rfl rfl (fun E hn hb => ?_)
 repeat (refine nst ?_)
 have ht := take_ok l p n hp hl
 refine s_call [0] ht rfl rfl (by rw [hn]; rfl) rfl rfl (by trivial) ⟨rfl, rfl, (by simp [ordL]), rfl⟩ ?_
 repeat (refine nst ?_)
 refine W_cond rfl (by simp) (fun h1 => ?_) (fun h1 => ?_)
 · simp at h1
 repeat (refine nst ?_)
 refine s_boxN rfl rfl rfl (by rw [hn]; rfl) rfl (by exact vcs) rfl rfl ?_
 repeat (refine nst ?_)
 refine s_storeN rfl rfl rfl rfl rfl (by exact vcs) rfl rfl rfl (by rw [cellsOf22]; rfl) (by rw [info22]; rfl) rfl rfl ?_
 repeat (refine nst ?_)
 exact rt1 [83]
theorem sub_err (l : List Int) (p : Nat) (n : Int) (h0 : 0 ≤ n) (hp : p ≤ l.length) (hn' : (l.length : Int) - p < n) (hl : l.length ≤ 1000000) : Ct Tryz.prog 75 [.c (.ptr 0 0), lv (.int .i64 n)] [curB l p] (.tup [.c (.lf (.v (.pointer none))), lv (.int .i64 3)]) [curB l p] [] := by
 refine Ct_intro Tryz.func75 rfl rfl rfl rfl rfl (fun E hn hb => ?_)
 repeat (refine nst ?_)
 have ht := take_err l p n h0 hp hn' hl
 refine s_call [0] ht rfl rfl (by rw [hn]; rfl) rfl rfl (by trivial) ⟨rfl, rfl, (by simp [ordL]), rfl⟩ ?_
 repeat (refine nst ?_)
 refine W_cond rfl (by simp) (fun h1 => ?_) (fun h1 => ?_)
 · repeat (refine nst ?_)
   exact rt1 []
 · simp at h1

@[simp] theorem wrapE8 (x : Int) : IntKind.u8.wrap x = x % 256 := by simp [IntKind.wrap, IntKind.signed, IntKind.bits]
def WfB (l : List Int) : Prop := ∀ x ∈ l, 0 ≤ x ∧ x < 256

def dig (n : Int) : Int := if n < 10 then 48 + n else 87 + n
theorem digit_ok (n : Int) (h : 0 ≤ n ∧ n < 16) : Ct Tryz.prog 89 [lv (.int .u8 n)] [] (lv (.int .u8 (dig n))) [] [] := by
 refine Ct_intro Tryz.func89 rfl rfl rfl rfl rfl (fun E hn hb => ?_)
 repeat (refine nst ?_)
 refine W_cond rfl (by simp) (fun hc => ?_) (fun hc => ?_)
 · have h1 : n < 10 := by simpa using hc
   repeat (refine nst ?_)
   refine rt2 [] ?_ ?_
   · simp only [dig, h1, if_true]; rfl
   · trivial
 · have h1 : ¬ n < 10 := by simpa using hc
   have e : 97 + n - 10 = 87 + n := by omega
   repeat (refine nst ?_)
   refine rt2 [] ?_ ?_
   · simp only [dig, h1, if_false, e]; rfl
   · trivial
def hexL (l : List Int) : List Int := l.flatMap fun c => [dig (c / 16), dig (c % 16)]
theorem hexL_len (l : List Int) : (hexL l).length = 2 * l.length := by
 induction l with
 | nil => rfl
 | cons x l ih => simp only [hexL, List.flatMap_cons] at *; simp [ih]; omega
theorem and15 (n : Int) (h : 0 ≤ n ∧ n < 256) : IntKind.u8.wrap (BitVec.ofInt IntKind.u8.bits n &&& BitVec.ofInt IntKind.u8.bits 15).toNat = n % 16 := by
 obtain ⟨m, rfl⟩ : ∃ m : Nat, n = m := ⟨n.toNat, by omega⟩
 have key : ∀ m : Fin 256, IntKind.u8.wrap (BitVec.ofInt IntKind.u8.bits ((m.val : Nat) : Int) &&& BitVec.ofInt IntKind.u8.bits 15).toNat = ((m.val : Nat) : Int) % 16 := by decide
 exact key ⟨m, by omega⟩
theorem hex_ok (l : List Int) (hl : l.length ≤ 100000) (hw : WfB l) : Ct Tryz.prog 49 [B8 l] [] (lv (.string (strOfNums (hexL l)))) [] [] := by
 refine Ct_intro Tryz.func49 rfl rfl rfl rfl rfl (fun E hn hb => ?_)
 repeat (refine nst ?_)
 refine s_makeI (by_ := 1) rfl rfl rfl (by rw [hn]; rfl) (elt_mk Tryz.underlying22 rfl rfl) rfl rfl rfl (by exact vcs) 0 (by first | rfl | (simp; done) | omega) (by first | (simp; done) | omega | (simp at *; omega)) ?_
 repeat (refine nst ?_)
 refine W_weaken (St.le_of (l := [(3, .c (.own 73 1 0 0)), (10, B8 l), (11, lv (.int .i64 (l.length : Int))), (12, lv (.int .i64 0))]) (h := [(73, .row (.ints .u8 []))]) (by refine ⟨?_, ?_⟩ <;> (repeat' (first | exact trivial | exact rfl | refine ⟨?_, ?_⟩)) <;> first | exact rfl | (simp; done) | skip)) ?_
 refine W_loop (ι := {i : Nat // i ≤ l.length}) (fun i => St.of [(3, .c (.own 73 1 0 (hexL (l.take i.1)).length)), (10, B8 l), (11, lv (.int .i64 (l.length : Int))), (12, lv (.int .i64 (i.1 : Int)))] [(73, .row (.ints .u8 (hexL (l.take i.1))))]) (fun i => l.length - i.1) (fun i => ?_) ⟨0, by omega⟩
 obtain ⟨i, hi⟩ := i
 dsimp only
 have hhl := hexL_len (l.take i)
 have htl : (l.take i).length ≤ l.length := by simp; omega
 repeat (refine nst ?_)
 refine W_cond rfl (by simp) (fun hc => ?_) (fun hc => ?_)
 · have hi8 : i < l.length := by simp at hc; omega
   have hg : l.getD (i : Int).toNat 0 = l[i] := by simp [hi8]
   have hx := hw l[i] (List.getElem_mem hi8)
   have e4 : l[i] / 2 ^ min (Int.toNat 4) IntKind.u8.bits = l[i] / 16 := by simp [IntKind.bits]
   repeat (refine nst ?_)
   rw [hg]
   repeat (refine nst ?_)
   rw [e4]
   refine s_call0 (digit_ok (l[i] / 16) (by omega)) rfl rfl rfl (by rw [hn]; rfl) rfl rfl (by exact vcs) rfl rfl rfl ?_
   repeat (refine nst ?_)
   rw [and15 _ hx]
   refine s_call0 (digit_ok (l[i] % 16) (by omega)) rfl rfl rfl (by rw [hn]; rfl) rfl rfl (by exact vcs) rfl rfl rfl ?_
   refine s_litI rfl rfl rfl (by rw [hn]; rfl) (elt_mk Tryz.underlying22 rfl rfl) (zok5) (by exact vcs) ⟨by decide, rfl⟩ ?_
   refine s_appI rfl rfl rfl rfl rfl rfl (by rw [hn]; rfl) (elt_mk Tryz.underlying22 rfl rfl) rfl rfl rfl rfl (by exact vcs) (by first | rfl | (simp; done) | (simp; omega)) ⟨by first | (simp; done) | (simp; omega) | (simp at *; omega), by decide⟩ ?_
   repeat (refine nst ?_)
   have eT : l.take (i + 1) = l.take i ++ [l[i]] := by rw [List.take_add_one, List.getElem?_eq_getElem hi8]; rfl
   have eH : hexL (l.take (i + 1)) = hexL (l.take i) ++ [dig (l[i] / 16), dig (l[i] % 16)] := by rw [eT]; simp only [hexL, List.flatMap_append, List.flatMap_cons, List.flatMap_nil, List.append_nil]
   refine N_round ⟨i + 1, by omega⟩ (by dsimp only; omega) (St.le_of ⟨⟨?_, rfl, rfl, rfl⟩, ?_⟩)
   · show Av.c (.own 73 1 0 (hexL (l.take i) ++ [dig (l[i] / 16), dig (l[i] % 16)]).length) = Av.c (.own 73 1 0 (hexL (l.take (i + 1))).length)
     rw [eH]
   · show Blk.row (.ints .u8 (hexL (l.take i) ++ [dig (l[i] / 16), dig (l[i] % 16)])) = Blk.row (.ints .u8 (hexL (l.take (i + 1))))
     rw [eH]
 · have : i = l.length := by simp at hc; omega
   subst this
   repeat (refine nst ?_)
   refine WL_q (opq_of (opy_str rfl Tryz.underlying22 Tryz.underlying5 Tryz.underlying9 rfl (by exact vcs)) rfl) (by rw [hn]; rfl) ?_
   repeat (refine nst ?_)
   refine rt2 [] ?_ ?_
   · have e : (hexL (l.take l.length)).take (hexL (l.take l.length)).length = hexL l := by rw [List.take_length, List.take_length]
     exact congrArg (fun l => lv (.string (strOfNums l))) e
   · trivial

def hd0 (l : List Int) : Int := l.getD 0 0

def revA (l : List Int) (i : Nat) : List Int := (List.range l.length).map fun k => if k < i ∨ l.length ≤ k + i then l.getD (l.length - 1 - k) 0 else l.getD k 0
theorem revA_len (l : List Int) (i : Nat) : (revA l i).length = l.length := by simp [revA]
theorem revA_get (l : List Int) (i k : Nat) (h : k < l.length) : (revA l i).getD k 0 = if k < i ∨ l.length ≤ k + i then l.getD (l.length - 1 - k) 0 else l.getD k 0 := by
 simp [revA, h]
theorem revA_zero (l : List Int) : revA l 0 = l := by
 apply List.ext_getElem?
 intro k
 by_cases h : k < l.length
 · simp [revA, h]; intro; omega
 · simp [revA, h]
theorem revA_all (l : List Int) (i : Nat) (h : l.length ≤ 2 * i + 1) : revA l i = l.reverse := by
 apply List.ext_getElem?
 intro k
 by_cases hk : k < l.length
 · rw [List.getElem?_reverse hk]
   simp only [revA, List.getElem?_map, List.getElem?_range hk, Option.map_some]
   have h1 : l.length - 1 - k < l.length := by omega
   rw [List.getElem?_eq_getElem h1]
   split
   · simp [h1]
   · have : l.length - 1 - k = k := by omega
     simp [this, hk]
 · simp [revA, hk]
theorem revA_set (l : List Int) (i : Nat) (h : 2 * i + 1 < l.length) : ((revA l i).set i (l.getD (l.length - 1 - i) 0)).set (l.length - 1 - i) (l.getD i 0) = revA l (i + 1) := by
 apply List.ext_getElem?
 intro k
 by_cases hk : k < l.length
 · simp only [List.getElem?_set, revA, List.getElem?_map, List.getElem?_range hk, Option.map_some, List.length_set, List.length_map, List.length_range]
   by_cases h1 : l.length - 1 - i = k
   · subst h1
     have e : l.length - 1 - (l.length - 1 - i) = i := by omega
     rw [if_pos rfl, if_pos (by omega), e, if_pos (by omega)]
   · rw [if_neg h1]
     by_cases h2 : i = k
     · subst h2
       rw [if_pos rfl, if_pos (by omega), if_pos (by omega)]
     · rw [if_neg h2]
       congr 1
       by_cases h3 : k < i ∨ l.length ≤ k + i
       · rw [if_pos h3, if_pos (by omega)]
       · rw [if_neg h3, if_neg (by omega)]
 · simp [revA, hk]
theorem reverse_ok (l : List Int) (hl : l.length ≤ 1000000) : Ct Tryz.prog 121 [.c (.own 0 1 0 l.length)] [.row (.ints .u8 l)] (.tup []) [.row (.ints .u8 l.reverse)] [] := by
 refine Ct_intro Tryz.func121 rfl rfl rfl rfl rfl (fun E hn hb => ?_)
 repeat (refine nst ?_)
 have ez := revA_zero l
 refine W_weaken (St.le_of (l := [(0, .c (.own 0 1 0 l.length)), (2, lv (.int .i64 0)), (3, lv (.int .i64 ((l.length : Int) - 1)))]) (h := [(0, .row (.ints .u8 l))]) (by refine ⟨?_, ?_⟩ <;> (repeat' (first | exact trivial | exact rfl | refine ⟨?_, ?_⟩)) <;> first | exact rfl | (simp; done) | skip)) ?_
 refine W_weaken (τ := St.of [(0, .c (.own 0 1 0 l.length)), (2, lv (.int .i64 ((0 : Nat) : Int))), (3, lv (.int .i64 ((l.length : Int) - 1 - (0 : Nat))))] [(0, .row (.ints .u8 (revA l 0)))]) ?_ ?_
 · rw [ez]; simp only [Int.natCast_zero, Int.sub_zero]; exact ⟨fun _ => .inl rfl, fun _ => .inl rfl⟩
 refine W_loop (ι := {i : Nat // 2 * i ≤ l.length + 1}) (fun i => St.of [(0, .c (.own 0 1 0 l.length)), (2, lv (.int .i64 (i.1 : Int))), (3, lv (.int .i64 ((l.length : Int) - 1 - i.1)))] [(0, .row (.ints .u8 (revA l i.1)))]) (fun i => l.length + 1 - 2 * i.1) (fun i => ?_) ⟨0, by omega⟩
 obtain ⟨i, hi⟩ := i
 dsimp only
 have hL := revA_len l i
 repeat (refine nst ?_)
 refine W_cond rfl (by simp) (fun hc => ?_) (fun hc => ?_)
 · have h2 : 2 * i + 1 < l.length := by simp at hc; omega
   repeat (refine nst ?_)
   refine W_drawX [2, 3] (by kernel_rfl) (by kernel_rfl) (by rw [hn]; rfl) ?_
   repeat (refine nsx ?_)
   refine DrawX_storeI rfl rfl rfl rfl (by exact vcs) rfl (by rw [cellsOf5]) (by first | (simp; done) | (simp; omega) | (simp at *; omega)) ?_
   repeat (refine nsx ?_)
   refine DrawX_storeI rfl rfl rfl rfl (by exact vcs) rfl (by rw [cellsOf5]) (by first | (simp; done) | (simp; omega) | (simp at *; omega)) ?_
   repeat (refine nsx ?_)
   repeat (refine nst ?_)
   have e1 : ((l.length : Int) - 1 - i).toNat = l.length - 1 - i := by omega
   have g1 : (revA l i).getD (0 + ((l.length : Int) - 1 - i).toNat) 0 = l.getD (l.length - 1 - i) 0 := by
     rw [e1, Nat.zero_add, revA_get l i _ (by omega), if_neg (by omega)]
   have g2 : (revA l i).getD (0 + (i : Int).toNat) 0 = l.getD i 0 := by
     rw [Int.toNat_natCast, Nat.zero_add, revA_get l i _ (by omega), if_neg (by omega)]
   rw [g1, g2]
   refine N_round ⟨i + 1, by omega⟩ (by dsimp only; omega) (St.le_of ⟨⟨rfl, rfl, ?_⟩, ?_⟩)
   · show lv (.int .i64 ((l.length : Int) - 1 - i - 1)) = lv (.int .i64 ((l.length : Int) - 1 - (i + 1 : Nat)))
     have : (l.length : Int) - 1 - i - 1 = (l.length : Int) - 1 - (i + 1 : Nat) := by omega
     rw [this]
   · show Blk.row (.ints .u8 (((revA l i).set (0 + (i : Int).toNat) (l.getD (l.length - 1 - i) 0)).set (0 + ((l.length : Int) - 1 - i).toNat) (l.getD i 0))) = Blk.row (.ints .u8 (revA l (i + 1)))
     rw [e1, Int.toNat_natCast, Nat.zero_add, Nat.zero_add, revA_set l i h2]
 · have h2 : l.length ≤ 2 * i + 1 := by simp at hc; omega
   repeat (refine nst ?_)
   refine N_endN [] rfl trivial ⟨rfl, ?_, trivial, rfl⟩ hb rfl (by simp [ordL])
   exact congrArg (fun l => Blk.row (.ints .u8 l)) (revA_all l i h2)
end Go.Proofs.YtaagjnlkinojcaaGreatDoor

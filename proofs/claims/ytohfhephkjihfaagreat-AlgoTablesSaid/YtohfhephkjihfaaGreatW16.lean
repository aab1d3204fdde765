/-
  Chapter 03: numbers as ints. The conditions: rows of at most a million bytes.
-/
import Derived.Test.YtohfhephkjihfaaGreatTy
import Derived.Test.YtohfhephkjihfaaGreatC1
import Derived.Test.YtohfhephkjihfaaGreatSxX
namespace Go.Proofs.YtohfhephkjihfaaGreat
set_option linter.unusedSimpArgs false
set_option linter.unusedVariables false
open Go.Sx
set_option maxRecDepth 10000
abbrev B8 (l : List Int) : Av := .c (.lf (.ints .u8 l))
theorem clone_own (l : List Int) (hl : l.length ≤ 1000000) : Ct Tryz.prog 19 [B8 l] [] (.c (.own 0 1 0 l.length)) [] [.row (.ints .u8 l)] := by
 refine Ct_intro Tryz.func19 rfl rfl rfl rfl rfl (fun E hn hb => ?_)
 repeat (refine nst ?_)
 refine s_nilS (neg := false) rfl rfl (by rw [hn]; rfl) Tryz.underlying29 rfl (by simp) (by simp [szD]) (fun b hbl => ?_)
 simp [lenD] at hbl
 repeat (refine nst ?_)
 refine W_cond rfl (by simp) (fun hc => ?_) (fun hc => ?_)
 · have := hbl hc
   subst this
   repeat (refine nst ?_)
   refine N_own_nil 2 64 1 (.ints .u8 []) rfl rfl (.inl rfl) ?_
   exact N_ret [64] rfl trivial ⟨rfl, trivial, rfl, rfl⟩ hb rfl trivial
 · repeat (refine nst ?_)
   refine s_litI rfl rfl rfl (by rw [hn]; rfl) (elt_mk Tryz.underlying29 rfl rfl) (zok5) (by exact vcs) ⟨by decide, rfl⟩ ?_
   repeat (refine nst ?_)
   refine s_appI rfl rfl rfl rfl rfl rfl (by rw [hn]; rfl) (elt_mk Tryz.underlying29 rfl rfl) rfl rfl rfl rfl (by exact vcs) (by first | rfl | (simp; done) | (simp; omega)) ⟨by first | (simp; done) | (simp; omega) | (simp at *; omega), by decide⟩ ?_
   repeat (refine nst ?_)
   exact N_ret [69] rfl trivial ⟨rfl, trivial, rfl, rfl⟩ hb rfl trivial
theorem clone_ok (l : List Int) (hl : l.length ≤ 1000000) : Ct Tryz.prog 19 [B8 l] [] (B8 l) [] [] :=
 (clone_own l hl).freeze ⟨rfl, rfl, rfl, by simp, by simp⟩ rfl
def cmpL : List Int → List Int → Int
 | [], [] => 0
 | [], _ :: _ => -1
 | _ :: _, [] => 1
 | x :: a, y :: b => if x < y then -1 else if y < x then 1 else cmpL a b
set_option maxHeartbeats 4000000 in
theorem compare_ok (a b : List Int) (ha : a.length ≤ 1000000) (hb' : b.length ≤ 1000000) : Ct Tryz.prog 21 [B8 a, B8 b] [] (lv (.int .i64 (cmpL a b))) [] [] := by
 refine Ct_intro Tryz.func21 rfl rfl rfl rfl rfl (fun E hn hb => ?_)
 repeat (refine nst ?_)
 refine W_weaken (St.le_of (l := [(0, B8 a), (1, B8 b), (5, lv (.int .i64 0))]) (h := []) (by refine ⟨?_, ?_⟩ <;> (repeat' (first | exact trivial | exact rfl | refine ⟨?_, ?_⟩)) <;> first | exact rfl | (simp; done) | skip)) ?_
 refine W_loop (ι := {i : Nat // i ≤ 1000000 ∧ cmpL (a.drop i) (b.drop i) = cmpL a b}) (fun i => St.of [(0, B8 a), (1, B8 b), (5, lv (.int .i64 (i.1 : Int)))] []) (fun i => 1000001 - i.1) (fun i => ?_) ⟨0, by omega, rfl⟩
 obtain ⟨i, hi, he⟩ := i
 dsimp only
 repeat (refine nst ?_)
 refine W_cond rfl (by simp) (fun hc => ?_) (fun hc => ?_)
 · simp at hc
   repeat (refine nst ?_)
   refine W_drawW 21 (by kernel_rfl) (by kernel_rfl) (by kernel_rfl) (by rw [hn]; rfl) rfl rfl ?_
   repeat (first | refine dp1 ?_ | refine dg1 ?_ | refine DrawW_nil ?_)
   repeat (refine nst ?_)
   have key : ∀ x : List Int, i < x.length → x.drop i = x.getD i 0 :: x.drop (i + 1) := fun x h => by
     rw [List.drop_eq_getElem_cons h]; simp [h]
   refine W_cond rfl (by simp) (fun hd => ?_) (fun hd => ?_)
   · repeat (refine nst ?_)
     refine rt2 [] ?_ ?_
     · have : cmpL a b = -1 := by
         rw [← he]
         by_cases h1 : i < a.length
         · have h2 : i < b.length ∧ a.getD i 0 < b.getD i 0 := by
             have : ¬ a.length ≤ i := by omega
             simpa [this, Bool.cond_eq_ite] using hd
           rw [key a h1, key b h2.1]
           simp only [cmpL, h2.2, if_true]
         · rw [List.drop_eq_nil_of_le (by omega), key b (by omega)]; rfl
       rw [this]; rfl
     · trivial
   · repeat (refine nst ?_)
     have hia : i < a.length ∧ (i < b.length → ¬ a.getD i 0 < b.getD i 0) := by
       rcases Nat.lt_or_ge i a.length with h | h
       · have : ¬ a.length ≤ i := by omega
         refine ⟨h, fun hib => ?_⟩
         simpa [this, hib, Bool.cond_eq_ite] using hd
       · simp [h, Bool.cond_eq_ite] at hd
     clear hd
     refine W_drawW 15 (by kernel_rfl) (by kernel_rfl) (by kernel_rfl) (by rw [hn]; rfl) rfl rfl ?_
     repeat (first | refine dp1 ?_ | refine dg1 ?_ | refine DrawW_nil ?_)
     repeat (refine nst ?_)
     refine W_cond rfl (by simp) (fun hd => ?_) (fun hd => ?_)
     · repeat (refine nst ?_)
       refine rt2 [] ?_ ?_
       · have : cmpL a b = 1 := by
           rw [← he, key a hia.1]
           by_cases h1 : i < b.length
           · have h2 : b.getD i 0 < a.getD i 0 := by
               have : ¬ b.length ≤ i := by omega
               simpa [this, Bool.cond_eq_ite] using hd
             rw [key b h1]
             simp only [cmpL, hia.2 h1, h2, if_true, if_false]
           · rw [List.drop_eq_nil_of_le (by omega : b.length ≤ i)]; rfl
         rw [this]; rfl
       · trivial
     · repeat (refine nst ?_)
       have h1 : i < b.length ∧ ¬ b.getD i 0 < a.getD i 0 := by
         rcases Nat.lt_or_ge i b.length with h | h
         · have : ¬ b.length ≤ i := by omega
           refine ⟨h, ?_⟩
           simpa [this, Bool.cond_eq_ite] using hd
         · simp [h, Bool.cond_eq_ite] at hd
       (refine N_round ?i1 ?i2 ?i3; (case i1 => exact ⟨i + 1, by omega, by rw [← he, key a hia.1, key b h1.1]; simp only [cmpL, hia.2 h1.1, h1.2, if_false]⟩); (case i2 => (dsimp only; omega)); (case i3 => refine St.le_of ⟨?_, ?_⟩ <;> (repeat' (first | exact trivial | exact rfl | refine ⟨?_, ?_⟩)) <;> first | exact rfl | (simp; done) | skip))
 · repeat (refine nst ?_)
   refine rt2 [] ?_ ?_
   · have : cmpL a b = 0 := by
       rw [← he, List.drop_eq_nil_of_le (by simp at hc; omega), List.drop_eq_nil_of_le (by simp at hc; omega)]; rfl
     rw [this]; rfl
   · trivial
theorem cmpL_eq : ∀ a b : List Int, cmpL a b = 0 ↔ a = b
 | [], [] => by simp [cmpL]
 | [], y :: b => by simp [cmpL]
 | x :: a, [] => by simp [cmpL]
 | x :: a, y :: b => by
   simp only [cmpL, List.cons.injEq]
   rw [← cmpL_eq a b]
   split
   · simp; omega
   · split
     · simp; omega
     · have : x = y := by omega
       simp [this]
theorem same_ok (a b : List Int) (ha : a.length ≤ 1000000) (hb' : b.length ≤ 1000000) : Ct Tryz.prog 12 [B8 a, B8 b] [] (lv (.bool (decide (a = b)))) [] [] := by
 refine Ct_intro Tryz.func12 rfl rfl rfl rfl rfl (fun E hn hb => ?_)
 repeat (refine nst ?_)
 refine s_call0 (compare_ok a b ha hb') rfl rfl rfl (by rw [hn]; rfl) rfl rfl (by exact vcs) rfl rfl rfl ?_
 repeat (refine nst ?_)
 refine rt2 [] ?_ ?_
 · have : (cmpL a b == 0) = decide (a = b) := by
     rw [Bool.eq_iff_iff]; simp [cmpL_eq]
   rw [← this]; rfl
 · trivial

theorem curnew_ok (l : List Int) (hl : l.length ≤ 1000000) : Ct Tryz.prog 34 [B8 l] [] (.c (.ptr 0 0)) [] [curB l 0] := by
 refine Ct_intro Tryz.func34 rfl rfl rfl rfl rfl (fun E hn hb => ?_)
 repeat (refine nst ?_)
 refine s_boxN rfl rfl rfl (by rw [hn]; rfl) rfl (by exact vcs) rfl rfl ?_
 repeat (refine nst ?_)
 refine s_makeI (by_ := 1) rfl rfl rfl (by rw [hn]; rfl) (elt_mk Tryz.underlying29 rfl rfl) rfl rfl rfl (by exact vcs) l.length (by first | rfl | (simp; done) | omega) (by first | (simp; done) | omega | (simp at *; omega)) ?_
 repeat (refine nst ?_)
 refine s_storeN rfl rfl rfl rfl rfl (by exact vcs) rfl rfl rfl (by rw [cellsOf29]; rfl) (by rw [info29]; rfl) rfl rfl ?_
 repeat (refine nst ?_)
 refine s_copyI rfl rfl rfl rfl rfl rfl (by rw [hn]; rfl) (elt_mk Tryz.underlying29 rfl rfl) rfl rfl rfl (by exact vcs) (by first | (simp; done) | (simp; omega) | (simp at *; omega)) ?_
 have e4 : List.take 0 (List.replicate l.length (0 : Int)) ++ List.take l.length l ++ List.drop (0 + (List.take l.length l).length) (List.replicate l.length (0 : Int)) = l := by
   simp
 rw [e4]
 refine WL_sr (fun a w h => SR.freezeC (d := .ints .u8 l) (cs := [.own 73 1 0 l.length, .lf (.v (.int .i64 0))]) (cs' := [.lf (.ints .u8 l), .lf (.v (.int .i64 0))]) 73 69 rfl rfl rfl (by rw [hb]; decide) (fun i hi => by rw [hb] at hi; exact absurd hi (Nat.not_lt_zero _)) ⟨⟨rfl, rfl, rfl, by omega, by rw [List.drop_zero, List.take_length]⟩, rfl, trivial⟩ h) ?_
 repeat (refine nst ?_)
 exact rt1 [69]
theorem byte_ok (l : List Int) (p : Nat) (hp : p < l.length) (hl : l.length ≤ 1000000) : Ct Tryz.prog 124 [.c (.ptr 0 0)] [curB l p] (.tup [lv (.int .u8 (l.getD p 0)), lv (.int .i64 0)]) [curB l (p + 1)] [] := by
 have e : ((p : Int) + 1) = ((p + 1 : Nat) : Int) := by omega
 refine Ct_intro Tryz.func124 rfl rfl rfl rfl rfl (fun E hn hb => ?_)
 repeat (refine nst ?_)
 refine WL_q (opq_of (opy_callL (peek_ok l p hp (by omega)) rfl rfl rfl (by exact vcs) ⟨.inr (.inr ⟨0, 0, _, _, rfl, rfl, rfl, rfl⟩), trivial⟩ rfl) rfl) (by rw [hn]; rfl) ?_
 repeat (refine nst ?_)
 refine W_cond rfl (by simp) (fun h1 => ?_) (fun h1 => ?_)
 · repeat (refine nst ?_)
   refine s_storeN rfl rfl rfl rfl rfl (by exact vcs) rfl rfl rfl (by rw [cellsOf3]; rfl) (by rw [info3]; rfl) rfl rfl ?_
   repeat (refine nst ?_)
   refine rt2 [] ?_ ?_
   · rfl
   · trivial
 · simp at h1
theorem byte_end (l : List Int) (hl : l.length ≤ 1000000) : Ct Tryz.prog 124 [.c (.ptr 0 0)] [curB l l.length] (.tup [lv (.int .u8 0), lv (.int .i64 3)]) [curB l l.length] [] := by
 refine Ct_intro Tryz.func124 rfl rfl rfl rfl rfl (fun E hn hb => ?_)
 repeat (refine nst ?_)
 refine WL_q (opq_of (opy_callL (peek_end l (by omega)) rfl rfl rfl (by exact vcs) ⟨.inr (.inr ⟨0, 0, _, _, rfl, rfl, rfl, rfl⟩), trivial⟩ rfl) rfl) (by rw [hn]; rfl) ?_
 repeat (refine nst ?_)
 refine W_cond rfl (by simp) (fun h1 => ?_) (fun h1 => ?_)
 · simp at h1
 · repeat (refine nst ?_)
   exact rt1 []
theorem take_ok (l : List Int) (p n : Nat) (hp : p + n ≤ l.length) (hl : l.length ≤ 1000000) : Ct Tryz.prog 110 [.c (.ptr 0 0), lv (.int .i64 (n : Int))] [curB l p] (.tup [B8 ((l.drop p).take n), lv (.int .i64 0)]) [curB l (p + n)] [] := by
 have e : mayF l p n = 0 := by rw [mayF, if_neg (by omega), if_neg (by omega)]
 have hm := may_ok l p n (by omega) (by omega)
 rw [e] at hm
 have hlen : ((l.drop p).take n).length = n := by simp; omega
 refine Ct_intro Tryz.func110 rfl rfl rfl rfl rfl (fun E hn hb => ?_)
 repeat (refine nst ?_)
 refine WL_q (opq_of (opy_callL (hm) rfl rfl rfl (by exact vcs) ⟨.inr (.inr ⟨0, 0, _, _, rfl, rfl, rfl, rfl⟩), .inl rfl, trivial⟩ rfl) rfl) (by rw [hn]; rfl) ?_
 repeat (refine nst ?_)
 refine W_cond rfl (by simp) (fun h1 => ?_) (fun h1 => ?_)
 · simp at h1
 repeat (refine nst ?_)
 refine W_drawP (by kernel_rfl) (by kernel_rfl) (by rw [hn]; rfl) ?_
 repeat (first | refine dp1 ?_ | refine dg1 ?_ | refine DrawW_nil ?_)
 refine DrawW_cons rfl (ops_of (opys_callF (cut_ok l p p n hp hl) rfl rfl rfl (by exact vcs) ⟨.inr (.inr ⟨0, 0, _, _, rfl, rfl, rfl, rfl⟩), .inl rfl, .inl rfl, trivial⟩ rfl (by first | (simp; done) | (simp; omega) | omega)) rfl) ?_
 repeat (first | refine dp1 ?_ | refine dg1 ?_ | refine DrawW_nil ?_)
 repeat (refine nst ?_)
 refine s_storeN rfl rfl rfl rfl rfl (by exact vcs) rfl rfl rfl (by rw [cellsOf3]; rfl) (by rw [info3]; rfl) rfl rfl ?_
 repeat (refine nst ?_)
 refine rt2 [] ?_ ?_
 · show Av.tup [B8 ((((l.drop p).take n).drop 0).take n), lv (.int .i64 0)] = _
   rw [List.drop_zero, List.take_of_length_le (by omega)]
   rfl
 · trivial
theorem take_err (l : List Int) (p : Nat) (n : Int) (h0 : 0 ≤ n) (hp : p ≤ l.length) (hn : (l.length : Int) - p < n) (hl : l.length ≤ 1000000) : Ct Tryz.prog 110 [.c (.ptr 0 0), lv (.int .i64 n)] [curB l p] (.tup [.c (.lf (.v (.slice none 0 0))), lv (.int .i64 3)]) [curB l p] [] := by
 have e : mayF l p n = 3 := by rw [mayF, if_neg (by omega), if_pos hn]
 have hm := may_ok l p n (by omega) (by omega)
 rw [e] at hm
 refine Ct_intro Tryz.func110 rfl rfl rfl rfl rfl (fun E hn hb => ?_)
 repeat (refine nst ?_)
 refine WL_q (opq_of (opy_callL (hm) rfl rfl rfl (by exact vcs) ⟨.inr (.inr ⟨0, 0, _, _, rfl, rfl, rfl, rfl⟩), .inl rfl, trivial⟩ rfl) rfl) (by rw [hn]; rfl) ?_
 repeat (refine nst ?_)
 refine W_cond rfl (by simp) (fun h1 => ?_) (fun h1 => ?_)
 · repeat (refine nst ?_)
   exact rt1 []
 · simp at h1
theorem back_ok (l : List Int) (p q : Nat) (hq : q ≤ p) (hl : p ≤ 1000000) : Ct Tryz.prog 51 [.c (.ptr 0 0), lv (.int .i64 (q : Int))] [curB l p] (lv (.int .i64 0)) [curB l q] [] := by
 refine Ct_intro Tryz.func51 rfl rfl rfl rfl rfl (fun E hn hb => ?_)
 repeat (refine nst ?_)
 refine WL_q (opq_of (opy_nilP (neg := false) rfl rfl rfl rfl (by exact vcs)) rfl) (by rw [hn]; rfl) ?_
 repeat (refine nst ?_)
 refine W_cond rfl (by simp) (fun h1 => ?_) (fun h1 => ?_)
 · simp at h1
 repeat (refine nst ?_)
 refine W_cond rfl (by simp) (fun h1 => ?_) (fun h1 => ?_)
 · simp at h1; omega
 repeat (refine nst ?_)
 refine s_storeN rfl rfl rfl rfl rfl (by exact vcs) rfl rfl rfl (by rw [cellsOf3]; rfl) (by rw [info3]; rfl) rfl rfl ?_
 repeat (refine nst ?_)
 exact rt1 []
theorem rest_ok (l : List Int) (p : Nat) (hp : p ≤ l.length) (hl : l.length ≤ 1000000) : Ct Tryz.prog 91 [.c (.ptr 0 0)] [curB l p] (B8 (l.drop p)) [curB l l.length] [] := by
 have hc := cut_ok l p p (l.length - p) (by omega) hl
 have e : ((p : Int) + ((l.length - p : Nat) : Int)) = (l.length : Int) := by omega
 rw [e] at hc
 have e2 : (((l.drop p).take (l.length - p)).drop 0).take (l.length - p) = l.drop p := by
   rw [List.drop_zero, List.take_take, Nat.min_self, List.take_of_length_le (by simp)]
 refine Ct_intro Tryz.func91 rfl rfl rfl rfl rfl (fun E hn hb => ?_)
 repeat (refine nst ?_)
 refine WL_q (opq_of (opy_nilP (neg := false) rfl rfl rfl rfl (by exact vcs)) rfl) (by rw [hn]; rfl) ?_
 repeat (refine nst ?_)
 refine W_cond rfl (by simp) (fun h1 => ?_) (fun h1 => ?_)
 · simp at h1
 repeat (refine nst ?_)
 refine W_drawP (by kernel_rfl) (by kernel_rfl) (by rw [hn]; rfl) ?_
 repeat (first | refine dp1 ?_ | refine dg1 ?_ | refine DrawW_nil ?_)
 refine DrawW_cons rfl (ops_of (opys_callL (size_ok l p) rfl rfl rfl (by exact vcs) ⟨.inr (.inr ⟨0, 0, _, _, rfl, rfl, rfl, rfl⟩), trivial⟩ rfl) rfl) ?_
 repeat (first | refine dp1 ?_ | refine dg1 ?_ | refine DrawW_nil ?_)
 refine DrawW_cons rfl (ops_of (opys_callF (hc) rfl rfl rfl (by exact vcs) ⟨.inr (.inr ⟨0, 0, _, _, rfl, rfl, rfl, rfl⟩), .inl rfl, .inl rfl, trivial⟩ rfl (by first | (simp; done) | (simp; omega) | omega)) rfl) ?_
 repeat (first | refine dp1 ?_ | refine dg1 ?_ | refine DrawW_nil ?_)
 repeat (refine nst ?_)
 refine WL_q (opq_of (opy_callL (size_ok l p) rfl rfl rfl (by exact vcs) ⟨.inr (.inr ⟨0, 0, _, _, rfl, rfl, rfl, rfl⟩), trivial⟩ rfl) rfl) (by rw [hn]; rfl) ?_
 repeat (refine nst ?_)
 refine s_storeN rfl rfl rfl rfl rfl (by exact vcs) rfl rfl rfl (by rw [cellsOf3]; rfl) (by rw [info3]; rfl) rfl rfl ?_
 repeat (refine nst ?_)
 refine rt2 [] ?_ ?_
 · show B8 ((((l.drop p).take (l.length - p)).drop 0).take (l.length - p)) = _
   rw [e2]
   rfl
 · trivial
theorem sub_ok (l : List Int) (p n : Nat) (hp : p + n ≤ l.length) (hl : l.length ≤ 1000000) : Ct Tryz.prog 89 [.c (.ptr 0 0), lv (.int .i64 (n : Int))] [curB l p] (.tup [.c (.ptr 1 0), lv (.int .i64 0)]) [curB l (p + n)] [curB ((l.drop p).take n) 0] := by
 refine Ct_intro Tryz.func89 rfl rfl rfl rfl rfl (fun E hn hb => ?_)
 repeat (refine nst ?_)
 have ht := take_ok l p n hp hl
 refine s_call [0] ht rfl rfl (by rw [hn]; rfl) rfl rfl (by trivial) ⟨rfl, rfl, (by simp [ordL]), rfl⟩ ?_
 repeat (refine nst ?_)
 refine W_cond rfl (by simp) (fun h1 => ?_) (fun h1 => ?_)
 · simp at h1
 repeat (refine nst ?_)
 refine s_boxN rfl rfl rfl (by rw [hn]; rfl) rfl (by exact vcs) rfl rfl ?_
 repeat (refine nst ?_)
 refine s_storeN rfl rfl rfl rfl rfl (by exact vcs) rfl rfl rfl (by rw [cellsOf29]; rfl) (by rw [info29]; rfl) rfl rfl ?_
 repeat (refine nst ?_)
 exact rt1 [83]
theorem sub_err (l : List Int) (p : Nat) (n : Int) (h0 : 0 ≤ n) (hp : p ≤ l.length) (hn' : (l.length : Int) - p < n) (hl : l.length ≤ 1000000) : Ct Tryz.prog 89 [.c (.ptr 0 0), lv (.int .i64 n)] [curB l p] (.tup [.c (.lf (.v (.pointer none))), lv (.int .i64 3)]) [curB l p] [] := by
 refine Ct_intro Tryz.func89 rfl rfl rfl rfl rfl (fun E hn hb => ?_)
 repeat (refine nst ?_)
 have ht := take_err l p n h0 hp hn' hl
 refine s_call [0] ht rfl rfl (by rw [hn]; rfl) rfl rfl (by trivial) ⟨rfl, rfl, (by simp [ordL]), rfl⟩ ?_
 repeat (refine nst ?_)
 refine W_cond rfl (by simp) (fun h1 => ?_) (fun h1 => ?_)
 · repeat (refine nst ?_)
   exact rt1 []
 · simp at h1

def fillUp (A : List Int) (i : Nat) : List Int := A.take i ++ List.replicate (A.length - i) 0
theorem fillUp_length (A : List Int) (i : Nat) : (fillUp A i).length = A.length := by simp [fillUp]; omega
theorem fillUp_zero (A : List Int) : fillUp A 0 = List.replicate A.length 0 := by simp [fillUp]
theorem fillUp_all (A : List Int) : fillUp A A.length = A := by simp [fillUp]
theorem fillUp_set (A : List Int) (i : Nat) (x : Int) (h : A[i]? = some x) : (fillUp A i).set i x = fillUp A (i + 1) := by
 obtain ⟨hi, hx⟩ := List.getElem?_eq_some_iff.1 h
 apply List.ext_getElem?
 intro k
 simp only [fillUp, List.getElem?_set, List.getElem?_append, List.length_append, List.length_take, List.length_replicate, List.getElem?_take, List.getElem?_replicate]
 by_cases h1 : i = k
 · subst h1
   simp [h, show min i A.length + (A.length - i) = A.length by omega, hi]
   rw [if_pos (by omega)]
   rw [hx]
 · rw [if_neg h1]
   by_cases h2 : k < i
   · rw [if_pos (by omega), if_pos (by omega), if_pos (by omega), if_pos (by omega)]
   · rw [if_neg (by omega)]
     by_cases h3 : k < A.length
     · rw [if_pos (by omega), if_neg (by omega), if_pos (by omega)]
     · rw [if_neg (by omega), if_neg (by omega), if_neg (by omega)]
@[simp] theorem wrapE8 (x : Int) : IntKind.u8.wrap x = x % 256 := by simp [IntKind.wrap, IntKind.signed, IntKind.bits]
def WfB (l : List Int) : Prop := ∀ x ∈ l, 0 ≤ x ∧ x < 256
theorem set_mid (a b : List Int) (x y : Int) (i : Nat) (h : a.length = i) : (a ++ x :: b).set i y = a ++ y :: b := by
 subst h
 induction a with
 | nil => rfl
 | cons z a ih => simp [ih]

def dig (n : Int) : Int := if n < 10 then 48 + n else 87 + n

def hd0 (l : List Int) : Int := l.getD 0 0

def revA (l : List Int) (i : Nat) : List Int := (List.range l.length).map fun k => if k < i ∨ l.length ≤ k + i then l.getD (l.length - 1 - k) 0 else l.getD k 0
theorem revA_len (l : List Int) (i : Nat) : (revA l i).length = l.length := by simp [revA]
theorem revA_get (l : List Int) (i k : Nat) (h : k < l.length) : (revA l i).getD k 0 = if k < i ∨ l.length ≤ k + i then l.getD (l.length - 1 - k) 0 else l.getD k 0 := by
 simp [revA, h]
theorem revA_zero (l : List Int) : revA l 0 = l := by
 apply List.ext_getElem?
 intro k
 by_cases h : k < l.length
 · simp [revA, h]; intro; omega
 · simp [revA, h]
theorem revA_all (l : List Int) (i : Nat) (h : l.length ≤ 2 * i + 1) : revA l i = l.reverse := by
 apply List.ext_getElem?
 intro k
 by_cases hk : k < l.length
 · rw [List.getElem?_reverse hk]
   simp only [revA, List.getElem?_map, List.getElem?_range hk, Option.map_some]
   have h1 : l.length - 1 - k < l.length := by omega
   rw [List.getElem?_eq_getElem h1]
   split
   · simp [h1]
   · have : l.length - 1 - k = k := by omega
     simp [this, hk]
 · simp [revA, hk]
theorem revA_set (l : List Int) (i : Nat) (h : 2 * i + 1 < l.length) : ((revA l i).set i (l.getD (l.length - 1 - i) 0)).set (l.length - 1 - i) (l.getD i 0) = revA l (i + 1) := by
 apply List.ext_getElem?
 intro k
 by_cases hk : k < l.length
 · simp only [List.getElem?_set, revA, List.getElem?_map, List.getElem?_range hk, Option.map_some, List.length_set, List.length_map, List.length_range]
   by_cases h1 : l.length - 1 - i = k
   · subst h1
     have e : l.length - 1 - (l.length - 1 - i) = i := by omega
     rw [if_pos rfl, if_pos (by omega), e, if_pos (by omega)]
   · rw [if_neg h1]
     by_cases h2 : i = k
     · subst h2
       rw [if_pos rfl, if_pos (by omega), if_pos (by omega)]
     · rw [if_neg h2]
       congr 1
       by_cases h3 : k < i ∨ l.length ≤ k + i
       · rw [if_pos h3, if_pos (by omega)]
       · rw [if_neg h3, if_neg (by omega)]
 · simp [revA, hk]
theorem reverse_ok (l : List Int) (hl : l.length ≤ 1000000) : Ct Tryz.prog 117 [.c (.own 0 1 0 l.length)] [.row (.ints .u8 l)] (.tup []) [.row (.ints .u8 l.reverse)] [] := by
 refine Ct_intro Tryz.func117 rfl rfl rfl rfl rfl (fun E hn hb => ?_)
 repeat (refine nst ?_)
 have ez := revA_zero l
 refine W_weaken (St.le_of (l := [(0, .c (.own 0 1 0 l.length)), (2, lv (.int .i64 0)), (3, lv (.int .i64 ((l.length : Int) - 1)))]) (h := [(0, .row (.ints .u8 l))]) (by refine ⟨?_, ?_⟩ <;> (repeat' (first | exact trivial | exact rfl | refine ⟨?_, ?_⟩)) <;> first | exact rfl | (simp; done) | skip)) ?_
 refine W_weaken (τ := St.of [(0, .c (.own 0 1 0 l.length)), (2, lv (.int .i64 ((0 : Nat) : Int))), (3, lv (.int .i64 ((l.length : Int) - 1 - (0 : Nat))))] [(0, .row (.ints .u8 (revA l 0)))]) ?_ ?_
 · rw [ez]; simp only [Int.natCast_zero, Int.sub_zero]; exact ⟨fun _ => .inl rfl, fun _ => .inl rfl⟩
 refine W_loop (ι := {i : Nat // 2 * i ≤ l.length + 1}) (fun i => St.of [(0, .c (.own 0 1 0 l.length)), (2, lv (.int .i64 (i.1 : Int))), (3, lv (.int .i64 ((l.length : Int) - 1 - i.1)))] [(0, .row (.ints .u8 (revA l i.1)))]) (fun i => l.length + 1 - 2 * i.1) (fun i => ?_) ⟨0, by omega⟩
 obtain ⟨i, hi⟩ := i
 dsimp only
 have hL := revA_len l i
 repeat (refine nst ?_)
 refine W_cond rfl (by simp) (fun hc => ?_) (fun hc => ?_)
 · have h2 : 2 * i + 1 < l.length := by simp at hc; omega
   repeat (refine nst ?_)
   refine W_drawX [2, 3] (by kernel_rfl) (by kernel_rfl) (by rw [hn]; rfl) ?_
   repeat (refine nsx ?_)
   refine DrawX_storeI rfl rfl rfl rfl (by exact vcs) rfl (by rw [cellsOf5]) (by first | (simp; done) | (simp; omega) | (simp at *; omega)) ?_
   repeat (refine nsx ?_)
   refine DrawX_storeI rfl rfl rfl rfl (by exact vcs) rfl (by rw [cellsOf5]) (by first | (simp; done) | (simp; omega) | (simp at *; omega)) ?_
   repeat (refine nsx ?_)
   repeat (refine nst ?_)
   have e1 : ((l.length : Int) - 1 - i).toNat = l.length - 1 - i := by omega
   have g1 : (revA l i).getD (0 + ((l.length : Int) - 1 - i).toNat) 0 = l.getD (l.length - 1 - i) 0 := by
     rw [e1, Nat.zero_add, revA_get l i _ (by omega), if_neg (by omega)]
   have g2 : (revA l i).getD (0 + (i : Int).toNat) 0 = l.getD i 0 := by
     rw [Int.toNat_natCast, Nat.zero_add, revA_get l i _ (by omega), if_neg (by omega)]
   rw [g1, g2]
   refine N_round ⟨i + 1, by omega⟩ (by dsimp only; omega) (St.le_of ⟨⟨rfl, rfl, ?_⟩, ?_⟩)
   · show lv (.int .i64 ((l.length : Int) - 1 - i - 1)) = lv (.int .i64 ((l.length : Int) - 1 - (i + 1 : Nat)))
     have : (l.length : Int) - 1 - i - 1 = (l.length : Int) - 1 - (i + 1 : Nat) := by omega
     rw [this]
   · show Blk.row (.ints .u8 (((revA l i).set (0 + (i : Int).toNat) (l.getD (l.length - 1 - i) 0)).set (0 + ((l.length : Int) - 1 - i).toNat) (l.getD i 0))) = Blk.row (.ints .u8 (revA l (i + 1)))
     rw [e1, Int.toNat_natCast, Nat.zero_add, Nat.zero_add, revA_set l i h2]
 · have h2 : l.length ≤ 2 * i + 1 := by simp at hc; omega
   repeat (refine nst ?_)
   refine N_endN [] rfl trivial ⟨rfl, ?_, trivial, rfl⟩ hb rfl (by simp [ordL])
   exact congrArg (fun l => Blk.row (.ints .u8 l)) (revA_all l i h2)

def valA : Int → List Int → Int
 | c, [] => c
 | c, x :: l => valA (256 * c + x) l
theorem wf_tail {x : Int} {l : List Int} (h : WfB (x :: l)) : WfB l := fun y hy => h y (List.mem_cons_of_mem _ hy)
theorem val_nonneg : ∀ (l : List Int) (c : Int), 0 ≤ c → WfB l → c ≤ valA c l
 | [], c, _, _ => Int.le_refl _
 | x :: l, c, hc, hw => by
   have hx := hw x (List.mem_cons_self ..)
   have := val_nonneg l (256 * c + x) (by omega) (wf_tail hw)
   simp only [valA]
   omega
theorem val_bound : ∀ (l : List Int) (c : Int), WfB l → valA c l < (c + 1) * 256 ^ l.length
 | [], c, _ => by simp [valA]; omega
 | x :: l, c, hw => by
   have hx := hw x (List.mem_cons_self ..)
   have := val_bound l (256 * c + x) (wf_tail hw)
   simp only [valA, List.length_cons]
   have h2 : (256 * c + x + 1) * 256 ^ l.length ≤ (256 * (c + 1)) * (256 : Int) ^ l.length := Int.mul_le_mul_of_nonneg_right (by omega) (Int.pow_nonneg (by decide))
   have h3 : (c + 1) * (256 : Int) ^ (l.length + 1) = (256 * (c + 1)) * 256 ^ l.length := by
     rw [Int.pow_succ, Int.mul_comm ((256 : Int) ^ l.length) 256, ← Int.mul_assoc, Int.mul_comm (c + 1) 256]
   omega

theorem wf_take {l : List Int} (h : WfB l) (n : Nat) : WfB (l.take n) := fun x hx => h x (List.mem_of_mem_take hx)

theorem val_app : ∀ (a b : List Int) (c : Int), valA c (a ++ b) = valA (valA c a) b
 | [], _, _ => rfl
 | x :: a, b, c => by simp only [List.cons_append, valA, val_app a b]
theorem pow_le (a b : Nat) (h : a ≤ b) : (256 : Int) ^ a ≤ 256 ^ b := by
 have h1 : (256 : Nat) ^ a ≤ 256 ^ b := Nat.pow_le_pow_right (by decide) h
 have h2 : ((256 ^ a : Nat) : Int) = 256 ^ a := by simp
 have h3 : ((256 ^ b : Nat) : Int) = 256 ^ b := by simp
 rw [← h2, ← h3]
 exact Int.ofNat_le.2 h1
theorem val_lt (l : List Int) (n : Nat) (hn : l.length ≤ n) (hw : WfB l) : valA 0 l < 256 ^ n := by
 have h := val_bound l 0 hw
 have h2 := pow_le l.length n hn
 omega
theorem val_snoc (a : List Int) (x : Int) : valA 0 (a ++ [x]) = 256 * valA 0 a + x := by rw [val_app]; rfl
end Go.Proofs.YtohfhephkjihfaaGreat

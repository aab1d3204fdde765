/-
  Chapter 03: contents of a number, and the number of contents. The conditions: rows of at most a million bytes.
-/
import Derived.Test.YtaagjnlkinojcaaW1
namespace Go.Proofs.Ytaagjnlkinojcaa
set_option linter.unusedSimpArgs false
set_option linter.unusedVariables false
open Go.Sx
set_option maxRecDepth 10000
theorem curnew_ok (l : List Int) (hl : l.length ≤ 1000000) : Ct Try.prog 27 [B8 l] [] (.c (.ptr 0 0)) [] [curB l 0] := by
 refine Ct_intro Try.func27 rfl rfl rfl rfl rfl (fun E hn hb => ?_)
 repeat (refine nst ?_)
 refine s_boxN rfl rfl rfl (by rw [hn]; rfl) rfl (by exact vcs) rfl rfl ?_
 repeat (refine nst ?_)
 refine s_makeI (by_ := 1) rfl rfl rfl (by rw [hn]; rfl) (elt_mk Try.underlying24 rfl rfl) rfl rfl rfl (by exact vcs) l.length (by first | rfl | (simp; done) | omega) (by first | (simp; done) | omega | (simp at *; omega)) ?_
 repeat (refine nst ?_)
 refine s_storeN rfl rfl rfl rfl rfl (by exact vcs) rfl rfl rfl (by rw [cellsOf24]; rfl) (by rw [info24]; rfl) rfl rfl ?_
 repeat (refine nst ?_)
 refine s_copyI rfl rfl rfl rfl rfl rfl (by rw [hn]; rfl) (elt_mk Try.underlying24 rfl rfl) rfl rfl rfl (by exact vcs) (by first | (simp; done) | (simp; omega) | (simp at *; omega)) ?_
 have e4 : List.take 0 (List.replicate l.length (0 : Int)) ++ List.take l.length l ++ List.drop (0 + (List.take l.length l).length) (List.replicate l.length (0 : Int)) = l := by
   simp
 rw [e4]
 refine WL_sr (fun a w h => SR.freezeC (d := .ints .u8 l) (cs := [.own 73 1 0 l.length, .lf (.v (.int .i64 0))]) (cs' := [.lf (.ints .u8 l), .lf (.v (.int .i64 0))]) 73 69 rfl rfl rfl (by rw [hb]; decide) (fun i hi => by rw [hb] at hi; exact absurd hi (Nat.not_lt_zero _)) ⟨⟨rfl, rfl, rfl, by omega, by rw [List.drop_zero, List.take_length]⟩, rfl, trivial⟩ h) ?_
 repeat (refine nst ?_)
 exact rt1 [69]
theorem byte_ok (l : List Int) (p : Nat) (hp : p < l.length) (hl : l.length ≤ 1000000) : Ct Try.prog 91 [.c (.ptr 0 0)] [curB l p] (.tup [lv (.int .u8 (l.getD p 0)), lv (.int .i64 0)]) [curB l (p + 1)] [] := by
 have e : ((p : Int) + 1) = ((p + 1 : Nat) : Int) := by omega
 refine Ct_intro Try.func91 rfl rfl rfl rfl rfl (fun E hn hb => ?_)
 repeat (refine nst ?_)
 refine WL_q (opq_of (opy_callL (peek_ok l p hp (by omega)) rfl rfl rfl (by exact vcs) ⟨.inr (.inr ⟨0, 0, _, _, rfl, rfl, rfl, rfl⟩), trivial⟩ rfl) rfl) (by rw [hn]; rfl) ?_
 repeat (refine nst ?_)
 refine W_cond rfl (by simp) (fun h1 => ?_) (fun h1 => ?_)
 · repeat (refine nst ?_)
   refine s_storeN rfl rfl rfl rfl rfl (by exact vcs) rfl rfl rfl (by rw [cellsOf3]; rfl) (by rw [info3]; rfl) rfl rfl ?_
   repeat (refine nst ?_)
   refine rt2 [] ?_ ?_
   · rfl
   · trivial
 · simp at h1
theorem byte_end (l : List Int) (hl : l.length ≤ 1000000) : Ct Try.prog 91 [.c (.ptr 0 0)] [curB l l.length] (.tup [lv (.int .u8 0), lv (.int .i64 3)]) [curB l l.length] [] := by
 refine Ct_intro Try.func91 rfl rfl rfl rfl rfl (fun E hn hb => ?_)
 repeat (refine nst ?_)
 refine WL_q (opq_of (opy_callL (peek_end l (by omega)) rfl rfl rfl (by exact vcs) ⟨.inr (.inr ⟨0, 0, _, _, rfl, rfl, rfl, rfl⟩), trivial⟩ rfl) rfl) (by rw [hn]; rfl) ?_
 repeat (refine nst ?_)
 refine W_cond rfl (by simp) (fun h1 => ?_) (fun h1 => ?_)
 · simp at h1
 · repeat (refine nst ?_)
   exact rt1 []
theorem take_ok (l : List Int) (p n : Nat) (hp : p + n ≤ l.length) (hl : l.length ≤ 1000000) : Ct Try.prog 81 [.c (.ptr 0 0), lv (.int .i64 (n : Int))] [curB l p] (.tup [B8 ((l.drop p).take n), lv (.int .i64 0)]) [curB l (p + n)] [] := by
 have e : mayF l p n = 0 := by rw [mayF, if_neg (by omega), if_neg (by omega)]
 have hm := may_ok l p n (by omega) (by omega)
 rw [e] at hm
 have hlen : ((l.drop p).take n).length = n := by simp; omega
 refine Ct_intro Try.func81 rfl rfl rfl rfl rfl (fun E hn hb => ?_)
 repeat (refine nst ?_)
 refine WL_q (opq_of (opy_callL (hm) rfl rfl rfl (by exact vcs) ⟨.inr (.inr ⟨0, 0, _, _, rfl, rfl, rfl, rfl⟩), .inl rfl, trivial⟩ rfl) rfl) (by rw [hn]; rfl) ?_
 repeat (refine nst ?_)
 refine W_cond rfl (by simp) (fun h1 => ?_) (fun h1 => ?_)
 · simp at h1
 repeat (refine nst ?_)
 refine W_drawP (by kernel_rfl) (by kernel_rfl) (by rw [hn]; rfl) ?_
 repeat (first | refine dp1 ?_ | refine dg1 ?_ | refine DrawW_nil ?_)
 refine DrawW_cons rfl (ops_of (opys_callF (cut_ok l p p n hp hl) rfl rfl rfl (by exact vcs) ⟨.inr (.inr ⟨0, 0, _, _, rfl, rfl, rfl, rfl⟩), .inl rfl, .inl rfl, trivial⟩ rfl (by first | (simp; done) | (simp; omega) | omega)) rfl) ?_
 repeat (first | refine dp1 ?_ | refine dg1 ?_ | refine DrawW_nil ?_)
 repeat (refine nst ?_)
 refine s_storeN rfl rfl rfl rfl rfl (by exact vcs) rfl rfl rfl (by rw [cellsOf3]; rfl) (by rw [info3]; rfl) rfl rfl ?_
 repeat (refine nst ?_)
 refine rt2 [] ?_ ?_
 · show Av.tup [B8 ((((l.drop p).take n).drop 0).take n), lv (.int .i64 0)] = _
   rw [List.drop_zero, List.take_of_length_le (by omega)]
   rfl
 · trivial
theorem take_err (l : List Int) (p : Nat) (n : Int) (h0 : 0 ≤ n) (hp : p ≤ l.length) (hn : (l.length : Int) - p < n) (hl : l.length ≤ 1000000) : Ct Try.prog 81 [.c (.ptr 0 0), lv (.int .i64 n)] [curB l p] (.tup [.c (.lf (.v (.slice none 0 0))), lv (.int .i64 3)]) [curB l p] [] := by
 have e : mayF l p n = 3 := by rw [mayF, if_neg (by omega), if_pos hn]
 have hm := may_ok l p n (by omega) (by omega)
 rw [e] at hm
 refine Ct_intro Try.func81 rfl rfl rfl rfl rfl (fun E hn hb => ?_)
 repeat (refine nst ?_)
 refine WL_q (opq_of (opy_callL (hm) rfl rfl rfl (by exact vcs) ⟨.inr (.inr ⟨0, 0, _, _, rfl, rfl, rfl, rfl⟩), .inl rfl, trivial⟩ rfl) rfl) (by rw [hn]; rfl) ?_
 repeat (refine nst ?_)
 refine W_cond rfl (by simp) (fun h1 => ?_) (fun h1 => ?_)
 · repeat (refine nst ?_)
   exact rt1 []
 · simp at h1
theorem back_ok (l : List Int) (p q : Nat) (hq : q ≤ p) (hl : p ≤ 1000000) : Ct Try.prog 59 [.c (.ptr 0 0), lv (.int .i64 (q : Int))] [curB l p] (lv (.int .i64 0)) [curB l q] [] := by
 refine Ct_intro Try.func59 rfl rfl rfl rfl rfl (fun E hn hb => ?_)
 repeat (refine nst ?_)
 refine WL_q (opq_of (opy_nilP (neg := false) rfl rfl rfl rfl (by exact vcs)) rfl) (by rw [hn]; rfl) ?_
 repeat (refine nst ?_)
 refine W_cond rfl (by simp) (fun h1 => ?_) (fun h1 => ?_)
 · simp at h1
 repeat (refine nst ?_)
 refine W_cond rfl (by simp) (fun h1 => ?_) (fun h1 => ?_)
 · simp at h1; omega
 repeat (refine nst ?_)
 refine s_storeN rfl rfl rfl rfl rfl (by exact vcs) rfl rfl rfl (by rw [cellsOf3]; rfl) (by rw [info3]; rfl) rfl rfl ?_
 repeat (refine nst ?_)
 exact rt1 []
theorem rest_ok (l : List Int) (p : Nat) (hp : p ≤ l.length) (hl : l.length ≤ 1000000) : Ct Try.prog 58 [.c (.ptr 0 0)] [curB l p] (B8 (l.drop p)) [curB l l.length] [] := by
 have hc := cut_ok l p p (l.length - p) (by omega) hl
 have e : ((p : Int) + ((l.length - p : Nat) : Int)) = (l.length : Int) := by omega
 rw [e] at hc
 have e2 : (((l.drop p).take (l.length - p)).drop 0).take (l.length - p) = l.drop p := by
   rw [List.drop_zero, List.take_take, Nat.min_self, List.take_of_length_le (by simp)]
 refine Ct_intro Try.func58 rfl rfl rfl rfl rfl (fun E hn hb => ?_)
 repeat (refine nst ?_)
 refine WL_q (opq_of (opy_nilP (neg := false) rfl rfl rfl rfl (by exact vcs)) rfl) (by rw [hn]; rfl) ?_
 repeat (refine nst ?_)
 refine W_cond rfl (by simp) (fun h1 => ?_) (fun h1 => ?_)
 · simp at h1
 repeat (refine nst ?_)
 refine W_drawP (by kernel_rfl) (by kernel_rfl) (by rw [hn]; rfl) ?_
 repeat (first | refine dp1 ?_ | refine dg1 ?_ | refine DrawW_nil ?_)
 refine DrawW_cons rfl (ops_of (opys_callL (size_ok l p) rfl rfl rfl (by exact vcs) ⟨.inr (.inr ⟨0, 0, _, _, rfl, rfl, rfl, rfl⟩), trivial⟩ rfl) rfl) ?_
 repeat (first | refine dp1 ?_ | refine dg1 ?_ | refine DrawW_nil ?_)
 refine DrawW_cons rfl (ops_of (opys_callF (hc) rfl rfl rfl (by exact vcs) ⟨.inr (.inr ⟨0, 0, _, _, rfl, rfl, rfl, rfl⟩), .inl rfl, .inl rfl, trivial⟩ rfl (by first | (simp; done) | (simp; omega) | omega)) rfl) ?_
 repeat (first | refine dp1 ?_ | refine dg1 ?_ | refine DrawW_nil ?_)
 repeat (refine nst ?_)
 refine WL_q (opq_of (opy_callL (size_ok l p) rfl rfl rfl (by exact vcs) ⟨.inr (.inr ⟨0, 0, _, _, rfl, rfl, rfl, rfl⟩), trivial⟩ rfl) rfl) (by rw [hn]; rfl) ?_
 repeat (refine nst ?_)
 refine s_storeN rfl rfl rfl rfl rfl (by exact vcs) rfl rfl rfl (by rw [cellsOf3]; rfl) (by rw [info3]; rfl) rfl rfl ?_
 repeat (refine nst ?_)
 refine rt2 [] ?_ ?_
 · show B8 ((((l.drop p).take (l.length - p)).drop 0).take (l.length - p)) = _
   rw [e2]
   rfl
 · trivial
theorem sub_ok (l : List Int) (p n : Nat) (hp : p + n ≤ l.length) (hl : l.length ≤ 1000000) : Ct Try.prog 65 [.c (.ptr 0 0), lv (.int .i64 (n : Int))] [curB l p] (.tup [.c (.ptr 1 0), lv (.int .i64 0)]) [curB l (p + n)] [curB ((l.drop p).take n) 0] := by
 refine Ct_intro Try.func65 rfl rfl rfl rfl rfl (fun E hn hb => ?_)
 repeat (refine nst ?_)
 have ht := take_ok l p n hp hl
 refine s_call [0] ht rfl rfl (by rw [hn]; rfl) rfl rfl (by trivial) ⟨rfl, rfl, (by simp [ordL]), rfl⟩ ?_
 repeat (refine nst ?_)
 refine W_cond rfl (by simp) (fun h1 => ?_) (fun h1 => ?_)
 · simp at h1
 repeat (refine nst ?_)
 refine s_boxN rfl rfl rfl (by rw [hn]; rfl) rfl (by exact vcs) rfl rfl ?_
 repeat (refine nst ?_)
 refine s_storeN rfl rfl rfl rfl rfl (by exact vcs) rfl rfl rfl (by rw [cellsOf24]; rfl) (by rw [info24]; rfl) rfl rfl ?_
 repeat (refine nst ?_)
 exact rt1 [83]
theorem sub_err (l : List Int) (p : Nat) (n : Int) (h0 : 0 ≤ n) (hp : p ≤ l.length) (hn' : (l.length : Int) - p < n) (hl : l.length ≤ 1000000) : Ct Try.prog 65 [.c (.ptr 0 0), lv (.int .i64 n)] [curB l p] (.tup [.c (.lf (.v (.pointer none))), lv (.int .i64 3)]) [curB l p] [] := by
 refine Ct_intro Try.func65 rfl rfl rfl rfl rfl (fun E hn hb => ?_)
 repeat (refine nst ?_)
 have ht := take_err l p n h0 hp hn' hl
 refine s_call [0] ht rfl rfl (by rw [hn]; rfl) rfl rfl (by trivial) ⟨rfl, rfl, (by simp [ordL]), rfl⟩ ?_
 repeat (refine nst ?_)
 refine W_cond rfl (by simp) (fun h1 => ?_) (fun h1 => ?_)
 · repeat (refine nst ?_)
   exact rt1 []
 · simp at h1

def rightB (b : Bool) : List Int → Bool
 | [] => !b
 | x :: _ => x != 0
theorem refmade_ok (b : Bool) (l : List Int) (hl : l.length ≤ 1000000) : Ct Try.prog 39 [numA b l] [] (numA (madeB b l) (trimL l)) [] [] := by
 refine Ct.freeze (res := .agg [.lf (.v (.bool (madeB b l))), .own 0 1 0 (trimL l).length]) (d := .ints .u8 (trimL l)) ?_ ⟨rfl, ⟨rfl, rfl, rfl, by simp, by simp⟩, trivial⟩ rfl
 refine Ct_intro Try.func39 rfl rfl rfl rfl rfl (fun E hn hb => ?_)
 repeat (refine nst ?_)
 refine s_boxN rfl rfl rfl (by rw [hn]; rfl) rfl (by exact vcs) rfl rfl ?_
 refine s_allocN rfl rfl rfl (by rw [hn]; rfl) rfl zok49 ?_
 repeat (refine nst ?_)
 refine W_weaken (St.le_of (l := [(1, .c (.ptr 65 0)), (2, .c (.ptr 66 0)), (3, lv (.int .i64 0))]) (h := [(65, .cells [.lf (.v (.bool b)), .lf (.ints .u8 l)]), (66, .cells [.lf (.v (.bool false)), .lf (.v (.slice none 0 0))])]) (by refine ⟨?_, ?_⟩ <;> (repeat' (first | exact trivial | exact rfl | refine ⟨?_, ?_⟩)) <;> first | exact rfl | (simp; done) | skip)) ?_
 refine W_loop (ι := {i : Nat // i ≤ l.length ∧ trimL (l.drop i) = trimL l}) (fun i => St.of [(1, .c (.ptr 65 0)), (2, .c (.ptr 66 0)), (3, lv (.int .i64 (i.1 : Int)))] [(65, .cells [.lf (.v (.bool b)), .lf (.ints .u8 l)]), (66, .cells [.lf (.v (.bool false)), .lf (.v (.slice none 0 0))])]) (fun i => 1000001 - i.1) (fun i => ?_) ⟨0, by omega, rfl⟩
 obtain ⟨i, hi, he⟩ := i
 dsimp only
 repeat (refine nst ?_)
 refine W_cond rfl (by simp) (fun hc => ?_) (fun hc => ?_)
 · have hil : i < l.length ∧ l.getD i 0 = 0 := by simpa [Bool.cond_eq_ite] using hc
   repeat (refine nst ?_)
   (refine N_round ?i1 ?i2 ?i3; (case i1 => exact ⟨i + 1, by omega, by rw [← he, List.drop_eq_getElem_cons hil.1]; have := hil.2; simp [hil.1] at this; simp [trimL, this]⟩); (case i2 => (dsimp only; omega)); (case i3 => refine St.le_of ⟨?_, ?_⟩ <;> (repeat' (first | exact trivial | exact rfl | refine ⟨?_, ?_⟩)) <;> first | exact rfl | (simp; done) | skip))
 · have he2 : l.drop i = trimL l := by
     rw [← he]
     rcases Nat.lt_or_ge i l.length with h | h
     · have : ¬ l.getD i 0 = 0 := by simpa [h, Bool.cond_eq_ite] using hc
       simp [h] at this
       rw [List.drop_eq_getElem_cons h]
       have this' : (l[i] == 0) = false := by simpa using this
       rw [trimL, List.dropWhile_cons, this']; rfl
     · rw [List.drop_eq_nil_of_le h]; rfl
   repeat (refine nst ?_)
   refine s_litI rfl rfl rfl (by rw [hn]; rfl) (elt_mk Try.underlying24 rfl rfl) (zok5) (by exact vcs) ⟨by decide, rfl⟩ ?_
   repeat (refine nst ?_)
   refine s_appI rfl rfl rfl rfl rfl rfl (by rw [hn]; rfl) (elt_mk Try.underlying24 rfl rfl) rfl rfl rfl rfl (by exact vcs) (by first | rfl | (simp; done) | (simp; omega)) ⟨by first | (simp; done) | (simp; omega) | (simp at *; omega), by decide⟩ ?_
   repeat (refine nst ?_)
   refine s_allocN rfl rfl rfl (by rw [hn]; rfl) rfl zok49 ?_
   refine s_storeN rfl rfl rfl rfl rfl (by exact vcs) rfl rfl rfl (by rw [cellsOf49]; rfl) (by rw [info49]; rfl) rfl rfl ?_
   repeat (refine nst ?_)
   refine s_storeN rfl rfl rfl rfl rfl (by exact vcs) rfl rfl rfl (by rw [cellsOf4]; rfl) (by rw [info4]; rfl) rfl rfl ?_
   repeat (refine nst ?_)
   refine s_storeN rfl rfl rfl rfl rfl (by exact vcs) rfl rfl rfl (by rw [cellsOf49]; rfl) (by rw [info49]; rfl) rfl rfl ?_
   repeat (refine nst ?_)
   have he3 : l.drop (i : Int).toNat = trimL l := he2
   refine rt2 [84] ?_ ?_
   · have hlen : l.length - i = (trimL l).length := by rw [← he2]; simp
     simp [madeB, Av.ren, Av.ren1, Cell.ren, Cell.ren1, rho]
     exact ⟨by rw [hlen], rfl, hlen⟩
   · show Blk.row (.ints .u8 ([] ++ l.drop (i : Int).toNat)) = _
     rw [he3]; rfl
theorem refsame_ok (b c : Bool) (l m : List Int) (hl : l.length ≤ 1000000) (hm : m.length ≤ 1000000) : Ct Try.prog 20 [numA b l, numA c m] [] (lv (.bool (cond (madeB b l == madeB c m) ((strOfNums (trimL l)).toList == (strOfNums (trimL m)).toList) false))) [] [] := by
 refine Ct_intro Try.func20 rfl rfl rfl rfl rfl (fun E hn hb => ?_)
 repeat (refine nst ?_)
 refine s_boxN rfl rfl rfl (by rw [hn]; rfl) rfl (by exact vcs) rfl rfl ?_
 refine s_boxN rfl rfl rfl (by rw [hn]; rfl) rfl (by exact vcs) rfl rfl ?_
 repeat (refine nst ?_)
 refine W_drawW 4 (by kernel_rfl) (by kernel_rfl) (by kernel_rfl) (by rw [hn]; rfl) rfl rfl ?_
 repeat (first | refine dp1 ?_ | refine dg1 ?_ | refine DrawW_nil ?_)
 refine DrawW_cons rfl (ops_of (opys_call (refmade_ok b l hl) rfl rfl rfl (by trivial) rfl rfl rfl) rfl) ?_
 repeat (first | refine dp1 ?_ | refine dg1 ?_ | refine DrawW_nil ?_)
 refine DrawW_cons rfl (ops_of (opys_call (refmade_ok c m hm) rfl rfl rfl (by trivial) rfl rfl rfl) rfl) ?_
 repeat (first | refine dp1 ?_ | refine dg1 ?_ | refine DrawW_nil ?_)
 refine s_storeN rfl rfl rfl rfl rfl (by exact vcs) rfl rfl rfl (by rw [cellsOf49]; rfl) (by rw [info49]; rfl) rfl rfl ?_
 refine s_storeN rfl rfl rfl rfl rfl (by exact vcs) rfl rfl rfl (by rw [cellsOf49]; rfl) (by rw [info49]; rfl) rfl rfl ?_
 repeat (refine nst ?_)
 refine WL_q (opq_ofG rfl rfl (fun hG => opy_str rfl Try.underlying24 Try.underlying5 Try.underlying9 rfl (by exact vcs))) (by rw [hn]; rfl) ?_
 repeat (refine nst ?_)
 refine WL_q (opq_ofG rfl rfl (fun hG => opy_str rfl Try.underlying24 Try.underlying5 Try.underlying9 rfl (by exact vcs))) (by rw [hn]; rfl) ?_
 repeat (refine nst ?_)
 refine rt2 [] ?_ ?_
 · rfl
 · trivial

def fillUp (A : List Int) (i : Nat) : List Int := A.take i ++ List.replicate (A.length - i) 0
theorem fillUp_length (A : List Int) (i : Nat) : (fillUp A i).length = A.length := by simp [fillUp]; omega
theorem fillUp_zero (A : List Int) : fillUp A 0 = List.replicate A.length 0 := by simp [fillUp]
theorem fillUp_all (A : List Int) : fillUp A A.length = A := by simp [fillUp]
theorem fillUp_set (A : List Int) (i : Nat) (x : Int) (h : A[i]? = some x) : (fillUp A i).set i x = fillUp A (i + 1) := by
 obtain ⟨hi, hx⟩ := List.getElem?_eq_some_iff.1 h
 apply List.ext_getElem?
 intro k
 simp only [fillUp, List.getElem?_set, List.getElem?_append, List.length_append, List.length_take, List.length_replicate, List.getElem?_take, List.getElem?_replicate]
 by_cases h1 : i = k
 · subst h1
   simp [h, show min i A.length + (A.length - i) = A.length by omega, hi]
   rw [if_pos (by omega)]
   rw [hx]
 · rw [if_neg h1]
   by_cases h2 : k < i
   · rw [if_pos (by omega), if_pos (by omega), if_pos (by omega), if_pos (by omega)]
   · rw [if_neg (by omega)]
     by_cases h3 : k < A.length
     · rw [if_pos (by omega), if_neg (by omega), if_pos (by omega)]
     · rw [if_neg (by omega), if_neg (by omega), if_neg (by omega)]
@[simp] theorem wrapE8 (x : Int) : IntKind.u8.wrap x = x % 256 := by simp [IntKind.wrap, IntKind.signed, IntKind.bits]
def incC : List Int → List Int × Int
 | [] => ([], 1)
 | x :: l => ((x + (incC l).2) % 256 :: (incC l).1, (x + (incC l).2) / 256)
def WfB (l : List Int) : Prop := ∀ x ∈ l, 0 ≤ x ∧ x < 256
theorem incC_take : ∀ (l : List Int) (i : Nat), WfB l → (incC (l.drop i)).2 = 0 → i ≤ l.length → (incC l).1 = l.take i ++ (incC (l.drop i)).1 ∧ (incC l).2 = 0
 | l, 0, _, h, _ => ⟨by simp, by simpa using h⟩
 | [], i + 1, _, _, hl => by simp at hl
 | x :: l, i + 1, hw, h, hl => by
   obtain ⟨h1, h2⟩ := incC_take l i (fun y hy => hw y (List.mem_cons_of_mem _ hy)) (by simpa using h) (by simpa using hl)
   have hx := hw x (List.mem_cons_self ..)
   simp only [incC, h2, List.take_succ_cons, List.drop_succ_cons, List.cons_append, h1]
   refine ⟨?_, by omega⟩
   congr 1
   omega
theorem set_mid (a b : List Int) (x y : Int) (i : Nat) (h : a.length = i) : (a ++ x :: b).set i y = a ++ y :: b := by
 subst h
 induction a with
 | nil => rfl
 | cons z a ih => simp [ih]
theorem grow_ok (l : List Int) (hl : l.length ≤ 1000000) (hw : WfB l) : Ct Try.prog 88 [.c (.own 0 1 0 l.length)] [.row (.ints .u8 l)] (.tup []) [.row (.ints .u8 (incC l).1)] [] := by
 refine Ct_intro Try.func88 rfl rfl rfl rfl rfl (fun E hn hb => ?_)
 repeat (refine nst ?_)
 refine W_weaken (St.le_of (l := [(0, .c (.own 0 1 0 l.length)), (2, lv (.int .i64 ((l.length : Int) - 1)))]) (h := [(0, .row (.ints .u8 l))]) (by refine ⟨?_, ?_⟩ <;> (repeat' (first | exact trivial | exact rfl | refine ⟨?_, ?_⟩)) <;> first | exact rfl | (simp; done) | skip)) ?_
 refine W_weaken (τ := St.of [(0, .c (.own 0 1 0 l.length)), (2, lv (.int .i64 ((l.length : Int) - 1)))] [(0, .row (.ints .u8 (l.take l.length ++ (incC (l.drop l.length)).1)))]) ?_ ?_
 · rw [List.take_length, List.drop_length]
   simp only [incC, List.append_nil]
   exact ⟨fun _ => .inl rfl, fun _ => .inl rfl⟩
 refine W_loop (ι := {j : Nat // j ≤ l.length ∧ (incC (l.drop j)).2 = 1}) (fun j => St.of [(0, .c (.own 0 1 0 l.length)), (2, lv (.int .i64 ((j.1 : Int) - 1)))] [(0, .row (.ints .u8 (l.take j.1 ++ (incC (l.drop j.1)).1)))]) (fun j => j.1) (fun j => ?_) ⟨l.length, by omega, by rw [List.drop_length]; rfl⟩
 obtain ⟨j, hj, hc1⟩ := j
 dsimp only
 repeat (refine nst ?_)
 refine W_cond rfl (by simp) (fun hc => ?_) (fun hc => ?_)
 · obtain ⟨i, rfl⟩ : ∃ i, j = i + 1 := ⟨j - 1, by simp at hc; omega⟩
   have hi : i < l.length := hj
   have hlen : ∀ l : List Int, (incC l).1.length = l.length := by intro l; induction l with | nil => rfl | cons x l ih => simp [incC, ih]
   have hR : l.take (i + 1) ++ (incC (l.drop (i + 1))).1 = l.take i ++ l[i] :: (incC (l.drop (i + 1))).1 := by
     have : l.take (i + 1) = l.take i ++ [l[i]] := by rw [List.take_add_one, List.getElem?_eq_getElem hi]; rfl
     rw [this, List.append_assoc]; rfl
   have e1 : ((i + 1 : Nat) : Int) - 1 = i := by omega
   have hx := hw l[i] (List.getElem_mem hi)
   have hd : incC (l.drop i) = ((l[i] + 1) % 256 :: (incC (l.drop (i + 1))).1, (l[i] + 1) / 256) := by
     rw [List.drop_eq_getElem_cons hi]; simp only [incC, hc1]
   have hlt : (l.take i).length = i := by simp; omega
   generalize hRR : (incC (l.drop (i + 1))).1 = R at *
   rw [hR, e1]
   have hL : (l.take i ++ l[i] :: R).length = l.length := by rw [← hR, ← hRR]; simp [hlen]; omega
   have hg : (l.take i ++ l[i] :: R).getD (0 + (i : Int).toNat) 0 = l[i] := by
     simp [List.getElem?_append_right, hlt]
   repeat (refine nst ?_)
   rw [hg]
   refine sp false rfl rfl (by rw [hn]; rfl) (by exact vcs) ?_
   repeat (refine nst ?_)
   refine s_storeI rfl rfl rfl rfl rfl (by exact vcs) rfl (by rw [cellsOf5]) (by first | (simp; done) | (simp; omega) | (simp at *; omega)) ?_
   refine WL_weaken (St.le_of (l := [(0, .c (.own 0 1 0 l.length)), (2, lv (.int .i64 (i : Int)))]) (h := [(0, .row (.ints .u8 (l.take i ++ (l[i] + 1) % 256 :: R)))]) ⟨⟨rfl, rfl⟩, ?_⟩) ?_
   · show Blk.row (.ints .u8 (List.set _ (0 + (i : Int).toNat) (IntKind.u8.wrap (l[i] + 1)))) = _
     rw [set_mid _ _ _ _ _ (by rw [hlt]; simp)]
     simp
   have hL' : (l.take i ++ (l[i] + 1) % 256 :: R).length = l.length := by rw [← hL]; simp
   have hg' : (l.take i ++ (l[i] + 1) % 256 :: R).getD (0 + (i : Int).toNat) 0 = (l[i] + 1) % 256 := by
     simp [List.getElem?_append_right, hlt]
   repeat (refine nst ?_)
   rw [hg']
   repeat (refine nst ?_)
   refine W_cond rfl (by simp) (fun hz => ?_) (fun hz => ?_)
   · repeat (refine nst ?_)
     have h0 : (incC (l.drop i)).2 = 0 := by rw [hd]; simp at hz; show (l[i] + 1) / 256 = 0; omega
     have := (incC_take l i hw h0 (by omega)).1
     rw [hd] at this
     refine N_retN [] rfl trivial ⟨rfl, ?_, trivial, rfl⟩ hb rfl (by simp [ordL])
     show Blk.row (.ints .u8 (l.take i ++ (l[i] + 1) % 256 :: R)) = Blk.row (.ints .u8 (incC l).1)
     rw [this]
   · have h1 : (incC (l.drop i)).2 = 1 := by rw [hd]; simp at hz; show (l[i] + 1) / 256 = 1; omega
     repeat (refine nst ?_)
     refine N_round ⟨i, by omega, h1⟩ (by dsimp only; omega) (St.le_of ⟨⟨rfl, rfl⟩, ?_⟩)
     show Blk.row (.ints .u8 (l.take i ++ (l[i] + 1) % 256 :: R)) = Blk.row (.ints .u8 (l.take i ++ (incC (l.drop i)).1))
     rw [hd]
 · have : j = 0 := by simp at hc; omega
   subst this
   repeat (refine nst ?_)
   refine N_endN [] rfl trivial ⟨rfl, ?_, trivial, rfl⟩ hb rfl (by simp [ordL])
   exact congrArg (fun l => Blk.row (.ints .u8 l)) (List.nil_append (incC l).1)

theorem not_u8 (n : Int) (h : 0 ≤ n ∧ n < 256) : IntKind.u8.wrap (BitVec.ofInt IntKind.u8.bits (if IntKind.u8.signed then -1 else IntKind.u8.max) ^^^ BitVec.ofInt IntKind.u8.bits n).toNat = 255 - n := by
 obtain ⟨m, rfl⟩ : ∃ m : Nat, n = m := ⟨n.toNat, by omega⟩
 have key : ∀ m : Fin 256, IntKind.u8.wrap (BitVec.ofInt IntKind.u8.bits (if IntKind.u8.signed then -1 else IntKind.u8.max) ^^^ BitVec.ofInt IntKind.u8.bits ((m.val : Nat) : Int)).toNat = 255 - ((m.val : Nat) : Int) := by decide
 exact key ⟨m, by omega⟩
def notL (l : List Int) : List Int := l.map fun x => 255 - x
def tcL (l : List Int) : List Int := (incC (notL l)).1
theorem wf_notL {l : List Int} (h : WfB l) : WfB (notL l) := by
 intro x hx
 obtain ⟨y, hy, rfl⟩ := List.mem_map.1 hx
 have := h y hy
 omega
theorem len_incC : ∀ l : List Int, (incC l).1.length = l.length := by intro l; induction l with | nil => rfl | cons x l ih => simp [incC, ih]
theorem turned_ok (l : List Int) (hl : l.length ≤ 1000000) (hw : WfB l) : Ct Try.prog 73 [B8 l] [] (B8 (tcL l)) [] [] := by
 have hA : (notL l).length = l.length := by simp [notL]
 refine Ct.freeze (res := .c (.own 0 1 0 (notL l).length)) (d := .ints .u8 (tcL l)) ?_ ⟨rfl, rfl, rfl, by simp [tcL, len_incC], by rw [List.drop_zero, List.take_of_length_le (by simp [tcL, len_incC])]⟩ rfl
 refine Ct_intro Try.func73 rfl rfl rfl rfl rfl (fun E hn hb => ?_)
 repeat (refine nst ?_)
 refine s_makeI (by_ := 1) rfl rfl rfl (by rw [hn]; rfl) (elt_mk Try.underlying24 rfl rfl) rfl rfl rfl (by exact vcs) (List.length (notL l)) (by first | rfl | (simp; done) | omega) (by first | (simp; done) | omega | (simp at *; omega)) ?_
 repeat (refine nst ?_)
 refine W_weaken (St.le_of (l := [(3, .c (.own 72 1 0 (notL l).length)), (9, B8 l), (10, lv (.int .i64 (l.length : Int))), (11, lv (.int .i64 0))]) (h := [(72, .row (.ints .u8 (fillUp (notL l) 0)))]) (by refine ⟨?_, ?_⟩ <;> (repeat' (first | exact trivial | exact rfl | refine ⟨?_, ?_⟩)) <;> first | exact rfl | (simp; done) | skip)) ?_
 refine W_loop (ι := {i : Nat // i ≤ l.length}) (fun i => St.of [(3, .c (.own 72 1 0 (notL l).length)), (9, B8 l), (10, lv (.int .i64 (l.length : Int))), (11, lv (.int .i64 (i.1 : Int)))] [(72, .row (.ints .u8 (fillUp (notL l) i.1)))]) (fun i => l.length - i.1) (fun i => ?_) ⟨0, by omega⟩
 obtain ⟨i, hi⟩ := i
 dsimp only
 repeat (refine nst ?_)
 refine W_cond rfl (by simp) (fun hc => ?_) (fun hc => ?_)
 · have hi8 : i < l.length := by simp at hc; omega
   have hl2 := fillUp_length (notL l) i
   have hg : l.getD (i : Int).toNat 0 = l[i] := by simp [hi8]
   have hx := hw l[i] (List.getElem_mem hi8)
   repeat (refine nst ?_)
   rw [hg, not_u8 _ hx]
   refine s_storeI rfl rfl rfl rfl rfl (by exact vcs) rfl (by rw [cellsOf5]) (by first | (simp; done) | (simp; omega) | (simp at *; omega)) ?_
   repeat (refine nst ?_)
   refine N_round ⟨i + 1, by omega⟩ (by dsimp only; omega) (St.le_of ⟨⟨rfl, rfl, rfl, rfl⟩, ?_⟩)
   have hx : (notL l)[i]? = some (255 - l[i]) := by simp [notL, hi8]
   rw [← fillUp_set (notL l) i _ hx]
   show Blk.row (.ints .u8 (List.set _ (0 + (i : Int).toNat) _)) = _
   simp
 · have : i = l.length := by simp at hc; omega
   subst this
   have : fillUp (notL l) l.length = notL l := by rw [← hA]; exact fillUp_all _
   rw [this]
   repeat (refine nst ?_)
   refine s_call [72] (grow_ok (notL l) (by omega) (wf_notL hw)) rfl rfl (by rw [hn]; rfl) rfl rfl trivial ⟨rfl, rfl, by simp [ordL], rfl⟩ ?_
   repeat (refine nst ?_)
   refine rt2 [72] ?_ ?_
   · rfl
   · rfl

def redB : List Int → Bool
 | x :: y :: _ => (x == 0 && decide (y < 128)) || (x == 255 && decide (128 ≤ y))
 | _ => false
def stripL : List Int → List Int
 | [] => []
 | x :: l => if redB (x :: l) then stripL l else x :: l
theorem strip_len : ∀ l : List Int, (stripL l).length ≤ l.length
 | [] => Nat.le_refl _
 | x :: l => by
   unfold stripL
   split
   · exact Nat.le_succ_of_le (strip_len l)
   · exact Nat.le_refl _
def twoL (b : Bool) (l : List Int) : List Int := if madeB b l then tcL (0 :: trimL l) else 0 :: trimL l
theorem wf_trim {l : List Int} (h : WfB l) : WfB (trimL l) := fun x hx => h x ((List.dropWhile_sublist _).subset hx)
theorem wf_zero {l : List Int} (h : WfB l) : WfB (0 :: l) := by
 intro x hx
 cases hx with
 | head => omega
 | tail _ hx => exact h x hx
theorem len_trim (l : List Int) : (trimL l).length ≤ l.length := (List.dropWhile_sublist _).length_le
end Go.Proofs.Ytaagjnlkinojcaa

/-
  The layer: maps whose keys are strings: made, looked at, written. No condition.
-/
import Derived.Test.YtaagjnlkinojcaaC8
import Derived.Test.YtaagjnlkinojcaaSxX
import Derived.WalkKit
import Derived.ProofKit
import Derived.OpenShut
import Derived.ShutString
import Derived.ChangeOld
import Derived.Below
import Derived.Lib.SmallJoins
import Derived.Test.YtaagjnlkinojcaaW16
import Derived.Test.YtaagjnlkinojcaaSxM
import Derived.Test.YtaagjnlkinojcaaW1
import Derived.Test.YtaagjnlkinojcaaW9
import Derived.Test.YtaagjnlkinojcaaSxQ
namespace Go.Proofs.Ytaagjnlkinojcaa
set_option linter.unusedSimpArgs false
set_option linter.unusedVariables false
open Go.Sx
set_option maxRecDepth 10000
theorem lenP_eq (b : List Int) (p : Nat) : lenP b p = if p < b.length then
   if b.getD p 0 < 128 then (b.getD p 0, p + 1, 0)
   else if b.getD p 0 = 128 ∨ 132 < b.getD p 0 then (0, p, 5)
   else if b.length < p + 1 + (b.getD p 0 % 128).toNat then (0, p, 3)
   else if b.getD (p + 1) 0 = 0 ∨ valA 0 ((b.drop (p + 1)).take (b.getD p 0 % 128).toNat) < 128 then (0, p, 5)
   else if 16777216 < valA 0 ((b.drop (p + 1)).take (b.getD p 0 % 128).toNat) then (0, p, 2)
   else (valA 0 ((b.drop (p + 1)).take (b.getD p 0 % 128).toNat), p + 1 + (b.getD p 0 % 128).toNat, 0)
   else (0, p, 3) := by
 unfold lenP rawL longP
 repeat' split
 all_goals rfl
set_option maxHeartbeats 4000000 in
theorem reflen_ok (l : List Int) (p : Nat) (hp : p ≤ l.length) (hl : l.length ≤ 1000000) (hw : WfB l) : Ct Try.prog 76 [B8 l, lv (.int .i64 (p : Int))] [] (.tup [lv (.int .i64 (lenP l p).1), lv (.int .i64 ((lenP l p).2.1 : Int)), lv (.int .i64 (lenP l p).2.2)]) [] [] := by
 have hTT := lenP_eq l p
 generalize lenP l p = T at *
 refine Ct_intro Try.func76 rfl rfl rfl rfl rfl (fun E hn hb => ?_)
 repeat (refine nst ?_)
 refine W_cond rfl (by simp) (fun h1 => ?_) (fun h1 => ?_)
 · have h1' : ¬ p < l.length := by simp at h1; omega
   rw [if_neg h1'] at hTT
   subst hTT
   repeat (refine nst ?_)
   exact rt1 []
 have h1' : p < l.length := by simp at h1; omega
 rw [if_pos h1'] at hTT
 have hd := getD_wf hw p
 repeat (refine nst ?_)
 rw [Int.toNat_natCast]
 generalize hdd : l.getD p 0 = d at *
 repeat (refine nst ?_)
 refine W_cond rfl (by simp) (fun h2 => ?_) (fun h2 => ?_)
 · have h2' : d < 128 := by simpa using h2
   rw [if_pos h2'] at hTT
   subst hTT
   repeat (refine nst ?_)
   exact rt1 []
 have h2' : ¬ d < 128 := by simpa using h2
 rw [if_neg h2'] at hTT
 repeat (refine nst ?_)
 refine W_cond rfl (by simp) (fun h3 => ?_) (fun h3 => ?_)
 · have h3' : d = 128 ∨ 132 < d := by
     by_cases hz : d = 128
     · exact .inl hz
     · simp [hz] at h3; exact .inr h3
   rw [if_pos h3'] at hTT
   subst hTT
   repeat (refine nst ?_)
   exact rt1 []
 have h3' : ¬ (d = 128 ∨ 132 < d) := by
   rintro (rfl | h)
   · simp at h3
   · simp [h] at h3
 rw [if_neg h3'] at hTT
 obtain ⟨n, hn'⟩ : ∃ n : Nat, d = ((n + 128 : Nat) : Int) := ⟨(d - 128).toNat, by omega⟩
 have en : (d % 128).toNat = n := by omega
 rw [en] at hTT
 clear en h3 h2
 subst hn'
 repeat (refine nst ?_)
 refine W_cond rfl (by simp) (fun h4 => ?_) (fun h4 => ?_)
 · have h4' : l.length < p + 1 + n := by simp at h4; omega
   rw [if_pos h4'] at hTT
   subst hTT
   repeat (refine nst ?_)
   exact rt1 []
 have h4' : ¬ l.length < p + 1 + n := by simp at h4; omega
 rw [if_neg h4'] at hTT
 have hxl : ((l.drop (p + 1)).take n).length = n := by simp; omega
 have hxg : ∀ i, i < n → l.getD (p + 1 + i) 0 = ((l.drop (p + 1)).take n).getD i 0 := fun i hi => by
   simp only [List.getD_eq_getElem?_getD, List.getElem?_take, List.getElem?_drop]
   rw [if_pos (by omega)]
 have hxw : WfB ((l.drop (p + 1)).take n) := fun x hx => hw x (List.mem_of_mem_drop (List.mem_of_mem_take hx))
 generalize (l.drop (p + 1)).take n = x at *
 repeat (refine nst ?_)
 rw [show (((n + 128 : Nat) : Int) - 128) = (n : Int) by omega]
 refine W_weaken (St.le_of (l := [(0, B8 l), (1, lv (.int .i64 (p : Int))), (8, lv (.int .i64 (n : Int))), (9, lv (.int .i64 (valA 0 (x.take 0)))), (10, lv (.int .i64 (((0 : Nat) : Int) + 1)))]) (h := []) (by refine ⟨?_, ?_⟩ <;> (repeat' (first | exact trivial | exact rfl | refine ⟨?_, ?_⟩)) <;> first | exact rfl | (simp; done) | skip)) ?_
 refine W_loop (ι := {i : Nat // i ≤ n}) (fun i => St.of [(0, B8 l), (1, lv (.int .i64 (p : Int))), (8, lv (.int .i64 (n : Int))), (9, lv (.int .i64 (valA 0 (x.take i.1)))), (10, lv (.int .i64 ((i.1 : Int) + 1)))] []) (fun i => n - i.1) (fun i => ?_) ⟨0, by omega⟩
 obtain ⟨i, hi⟩ := i
 dsimp only
 have hwt : WfB (x.take i) := wf_take hxw i
 have hv0 := val_nonneg (x.take i) 0 (by decide) hwt
 have hv1 : valA 0 (x.take i) < 256 ^ 4 := val_lt (x.take i) 4 (by simp; omega) hwt
 repeat (refine nst ?_)
 refine W_cond rfl (by simp) (fun hc => ?_) (fun hc => ?_)
 · have hi8 : i < n := by simp at hc; omega
   have hx := hxw x[i] (List.getElem_mem (by omega))
   have hT : x.take (i + 1) = x.take i ++ [x[i]] := by rw [List.take_add_one, List.getElem?_eq_getElem (by omega)]; rfl
   have hg : l.getD ((p : Int) + ((i : Int) + 1)).toNat 0 = x[i] := by
     rw [show ((p : Int) + ((i : Int) + 1)).toNat = p + 1 + i by omega, hxg i hi8]
     simp [show i < x.length by omega]
   have hvs := val_snoc (x.take i) x[i]
   rw [← hT] at hvs
   generalize valA 0 (x.take i) = v at *
   have hv2 : v < 4294967296 := by omega
   clear hv1
   repeat (refine nst ?_)
   rw [hg]
   repeat (refine nst ?_)
   refine N_round ⟨i + 1, by omega⟩ (by dsimp only; omega) (St.le_of ⟨⟨rfl, rfl, rfl, ?_, rfl⟩, trivial⟩)
   show lv (.int .i64 (256 * v + x[i])) = lv (.int .i64 (valA 0 (x.take (i + 1))))
   rw [hvs]
 · have : i = n := by simp at hc; omega
   subst this
   rw [List.take_of_length_le (by omega)] at *
   generalize valA 0 x = v at *
   repeat (refine nst ?_)
   rw [show ((p : Int) + 1).toNat = p + 1 by omega]
   generalize l.getD (p + 1) 0 = z at *
   refine W_cond rfl (by simp) (fun h2 => ?_) (fun h2 => ?_)
   · have h2' : z = 0 ∨ v < 128 := by
       by_cases hz : z = 0
       · exact .inl hz
       · simp [hz] at h2; exact .inr h2
     rw [if_pos h2'] at hTT
     subst hTT
     repeat (refine nst ?_)
     exact rt1 []
   · have h2' : ¬ (z = 0 ∨ v < 128) := by
       rintro (rfl | h)
       · simp at h2
       · simp [h] at h2
     rw [if_neg h2'] at hTT
     repeat (refine nst ?_)
     refine W_cond rfl (by simp) (fun h3 => ?_) (fun h3 => ?_)
     · have h3' : 16777216 < v := by simpa using h3
       rw [if_pos h3'] at hTT
       subst hTT
       repeat (refine nst ?_)
       exact rt1 []
     · have h3' : ¬ 16777216 < v := by simpa using h3
       rw [if_neg h3'] at hTT
       subst hTT
       repeat (refine nst ?_)
       refine rt2 [] ?_ ?_
       · show Av.tup [_, lv (.int .i64 ((p : Int) + (i : Int) + 1)), _] = _
         rw [show (p : Int) + (i : Int) + 1 = ((p + 1 + i : Nat) : Int) by omega]
         rfl
       · trivial

theorem readP_eq (b : List Int) (p : Nat) : readP b p = if (tagP b p).2.2 = 0 then
   if (lenP b (tagP b p).2.1).2.2 = 0 then (((tagP b p).1, (lenP b (tagP b p).2.1).1), (lenP b (tagP b p).2.1).2.1, 0) else ((tag0, 0), p, (lenP b (tagP b p).2.1).2.2)
   else ((tag0, 0), p, (tagP b p).2.2) := by
 unfold readP rawF keepP
 by_cases h1 : (tagP b p).2.2 = 0
 · rw [if_pos h1, if_pos h1]
   by_cases h2 : (lenP b (tagP b p).2.1).2.2 = 0
   · rw [if_pos h2, if_pos h2, h2]
   · rw [if_neg h2, if_neg h2]
 · rw [if_neg h1, if_neg h1, if_neg h1]
theorem openP_eq (b : List Int) (p : Nat) (t : TagP) : openP b p t = if (readP b p).2.2 = 0 then
   if (readP b p).1.1 = t then
     if (b.length : Int) - ((readP b p).2.1 : Int) < (readP b p).1.2 then ([], p, 3)
     else ((b.drop (readP b p).2.1).take (readP b p).1.2.toNat, (readP b p).2.1 + (readP b p).1.2.toNat, 0)
   else ([], p, 4)
   else ([], p, (readP b p).2.2) := by
 unfold openP rawO keepP
 by_cases h1 : (readP b p).2.2 = 0
 · rw [if_pos h1, if_pos h1]
   repeat' split
   all_goals first | rfl | simp_all
 · rw [if_neg h1, if_neg h1, if_neg h1]
theorem parse_err (m : List Int) (h : ¬ (parseN m).2.2 = 0) : parseN m = (false, [], (parseN m).2.2) := by
 unfold parseN at h ⊢
 by_cases h1 : m = []
 · rw [if_pos h1]
 · rw [if_neg h1] at h ⊢
   by_cases h2 : (64 : Int) < m.length
   · rw [if_pos h2]
   · rw [if_neg h2] at h ⊢
     by_cases h3 : redB m = true
     · rw [if_pos h3]
     · rw [if_neg h3] at h
       exfalso
       split at h <;> exact h rfl
abbrev frR (r : (TagP × Int) × Nat × Int) : Av := .tup [tagA r.1.1, lv (.int .i64 r.1.2), lv (.int .i64 (r.2.1 : Int)), lv (.int .i64 r.2.2)]
theorem refread_ok (l : List Int) (p : Nat) (hp : p ≤ l.length) (hl : l.length ≤ 1000000) (hw : WfB l) : Ct Try.prog 60 [B8 l, lv (.int .i64 (p : Int))] [] (frR (readP l p)) [] [] := by
 have hTT := readP_eq l p
 have ht := reftagr_ok l p hp hl hw
 have hnl := reflen_ok l (tagP l p).2.1 (tagP_le l p hp).2 hl hw
 generalize readP l p = R at *
 generalize tagP l p = T at *
 generalize lenP l T.2.1 = N at *
 refine Ct_intro Try.func60 rfl rfl rfl rfl rfl (fun E hn hb => ?_)
 repeat (refine nst ?_)
 refine s_allocN rfl rfl rfl (by rw [hn]; rfl) rfl zok53 ?_
 repeat (refine nst ?_)
 refine s_call0 (ht) rfl rfl rfl (by rw [hn]; rfl) rfl rfl (by exact vcs) rfl rfl rfl ?_
 repeat (refine nst ?_)
 refine s_allocN rfl rfl rfl (by rw [hn]; rfl) rfl zok53 ?_
 repeat (refine nst ?_)
 refine s_storeN rfl rfl rfl rfl rfl (by exact vcs) rfl rfl rfl (by rw [cellsOf53]; rfl) (by rw [info53]; rfl) rfl rfl ?_
 repeat (refine nst ?_)
 refine W_cond rfl (by simp) (fun h1 => ?_) (fun h1 => ?_)
 · have h1' : ¬ T.2.2 = 0 := by simpa using h1
   rw [if_neg h1'] at hTT
   subst hTT
   repeat (refine nst ?_)
   refine s_storeN rfl rfl rfl rfl rfl (by exact vcs) rfl rfl rfl (by rw [cellsOf53]; rfl) (by rw [info53]; rfl) rfl rfl ?_
   repeat (refine nst ?_)
   exact rt1 []
 have h1' : T.2.2 = 0 := by simpa using h1
 rw [if_pos h1'] at hTT
 repeat (refine nst ?_)
 refine s_call0 (hnl) rfl rfl rfl (by rw [hn]; rfl) rfl rfl (by exact vcs) rfl rfl rfl ?_
 repeat (refine nst ?_)
 refine W_cond rfl (by simp) (fun h2 => ?_) (fun h2 => ?_)
 · have h2' : ¬ N.2.2 = 0 := by simpa using h2
   rw [if_neg h2'] at hTT
   subst hTT
   repeat (refine nst ?_)
   refine s_storeN rfl rfl rfl rfl rfl (by exact vcs) rfl rfl rfl (by rw [cellsOf53]; rfl) (by rw [info53]; rfl) rfl rfl ?_
   repeat (refine nst ?_)
   exact rt1 []
 have h2' : N.2.2 = 0 := by simpa using h2
 rw [if_pos h2'] at hTT
 subst hTT
 repeat (refine nst ?_)
 refine s_storeN rfl rfl rfl rfl rfl (by exact vcs) rfl rfl rfl (by rw [cellsOf53]; rfl) (by rw [info53]; rfl) rfl rfl ?_
 repeat (refine nst ?_)
 exact rt1 []
abbrev opR (r : List Int × Nat × Int) : Av := .tup [B8 r.1, lv (.int .i64 (r.2.1 : Int)), lv (.int .i64 r.2.2)]
theorem refopen_ok (l : List Int) (p : Nat) (t : TagP) (hp : p ≤ l.length) (hl : l.length ≤ 1000000) (hw : WfB l) : Ct Try.prog 37 [B8 l, lv (.int .i64 (p : Int)), tagA t] [] (opR (openP l p t)) [] [] := by
 have hTT := openP_eq l p t
 have hr := refread_ok l p hp hl hw
 have hle := readP_le l p hp
 have hpos := readP_pos l p hw
 generalize openP l p t = R at *
 generalize readP l p = F at *
 refine Ct_intro Try.func37 rfl rfl rfl rfl rfl (fun E hn hb => ?_)
 repeat (refine nst ?_)
 refine s_boxN rfl rfl rfl (by rw [hn]; rfl) rfl (by exact vcs) rfl rfl ?_
 repeat (refine nst ?_)
 refine s_call0 (hr) rfl rfl rfl (by rw [hn]; rfl) rfl rfl (by exact vcs) rfl rfl rfl ?_
 repeat (refine nst ?_)
 refine s_allocN rfl rfl rfl (by rw [hn]; rfl) rfl zok53 ?_
 repeat (refine nst ?_)
 refine s_storeN rfl rfl rfl rfl rfl (by exact vcs) rfl rfl rfl (by rw [cellsOf53]; rfl) (by rw [info53]; rfl) rfl rfl ?_
 repeat (refine nst ?_)
 refine W_cond rfl (by simp) (fun h1 => ?_) (fun h1 => ?_)
 · have h1' : ¬ F.2.2 = 0 := by simpa using h1
   rw [if_neg h1'] at hTT
   subst hTT
   repeat (refine nst ?_)
   refine N_retU [] rfl (by simp) (r' := .tup [B8 [], lv (.int .i64 (p : Int)), lv (.int .i64 F.2.2)]) ⟨.inr ⟨rfl, .inl ⟨_, rfl⟩⟩, .inl rfl, .inl rfl, trivial⟩ ⟨rfl, trivial, trivial, rfl⟩ hb rfl trivial
 have h1' : F.2.2 = 0 := by simpa using h1
 rw [if_pos h1'] at hTT
 repeat (refine nst ?_)
 refine WL_q (opq_of (opy_eqS (neg := true) (l := tagC F.1.1) (m := tagC t) rfl structT53 heldT53 (by first | rfl | (rw [cellsOf53]; rfl)) (by first | rfl | (rw [cellsOf53]; rfl)) (by trivial) guardT53 (eqokT53 _ _)) rfl) (by rw [hn]; rfl) ?_
 rw [eqT]
 repeat (refine nst ?_)
 refine W_cond rfl (by simp) (fun h2 => ?_) (fun h2 => ?_)
 · have h2' : ¬ F.1.1 = t := by simpa using h2
   rw [if_neg h2'] at hTT
   subst hTT
   repeat (refine nst ?_)
   refine N_retU [] rfl (by simp) (r' := .tup [B8 [], lv (.int .i64 (p : Int)), lv (.int .i64 4)]) ⟨.inr ⟨rfl, .inl ⟨_, rfl⟩⟩, .inl rfl, .inl rfl, trivial⟩ ⟨rfl, trivial, trivial, rfl⟩ hb rfl trivial
 have h2' : F.1.1 = t := by simpa using h2
 rw [if_pos h2'] at hTT
 repeat (refine nst ?_)
 refine W_cond rfl (by simp) (fun h3 => ?_) (fun h3 => ?_)
 · have h3' : (l.length : Int) - (F.2.1 : Int) < F.1.2 := by simpa using h3
   rw [if_pos h3'] at hTT
   subst hTT
   repeat (refine nst ?_)
   refine N_retU [] rfl (by simp) (r' := .tup [B8 [], lv (.int .i64 (p : Int)), lv (.int .i64 3)]) ⟨.inr ⟨rfl, .inl ⟨_, rfl⟩⟩, .inl rfl, .inl rfl, trivial⟩ ⟨rfl, trivial, trivial, rfl⟩ hb rfl trivial
 have h3' : ¬ (l.length : Int) - (F.2.1 : Int) < F.1.2 := by simpa using h3
 rw [if_neg h3'] at hTT
 obtain ⟨n, hn'⟩ : ∃ n : Nat, F.1.2 = (n : Int) := ⟨F.1.2.toNat, by omega⟩
 rw [hn', Int.toNat_natCast] at hTT
 subst hTT
 clear h3
 rw [hn'] at h3' hpos
 repeat (refine nst ?_)
 rw [hn']
 repeat (refine nst ?_)
 refine rt2 [] ?_ ?_
 · show Av.tup [B8 ((List.take ((F.2.1 : Int) + (n : Int)).toNat l).drop (F.2.1 : Int).toNat), lv (.int .i64 ((F.2.1 : Int) + (n : Int))), lv (.int .i64 0)] = _
   rw [show ((F.2.1 : Int) + (n : Int)) = ((F.2.1 + n : Nat) : Int) by omega, Int.toNat_natCast, Int.toNat_natCast, List.drop_take, Nat.add_sub_cancel_left]
   rfl
 · trivial
abbrev pnR (r : (Bool × List Int × Int) × Nat) : Av := .tup [numA r.1.1 r.1.2.1, lv (.int .i64 (r.2 : Int)), lv (.int .i64 r.1.2.2)]
theorem refnum_ok (l : List Int) (p : Nat) (t : TagP) (hp : p ≤ l.length) (hl : l.length ≤ 1000) (hw : WfB l) : Ct Try.prog 18 [B8 l, lv (.int .i64 (p : Int)), tagA t] [] (pnR (parsedP l p t)) [] [] := by
 obtain ⟨m1, m2⟩ := openP_mem l p t
 have ho := refopen_ok l p t hp (by omega) hw
 have hx : WfB (openP l p t).1 := fun x h => hw x (m2 x h)
 have hps := refparse_ok (openP l p t).1 (by omega) hx
 rw [parse_eq _ hx] at hps
 have her := parse_err (openP l p t).1
 generalize hRR : parsedP l p t = R
 unfold parsedP at hRR
 generalize openP l p t = O at *
 generalize parseN O.1 = N at *
 refine Ct_intro Try.func18 rfl rfl rfl rfl rfl (fun E hn hb => ?_)
 repeat (refine nst ?_)
 refine s_boxN rfl rfl rfl (by rw [hn]; rfl) rfl (by exact vcs) rfl rfl ?_
 repeat (refine nst ?_)
 refine s_allocN rfl rfl rfl (by rw [hn]; rfl) rfl zok49 ?_
 repeat (refine nst ?_)
 refine s_call0 (ho) rfl rfl rfl (by rw [hn]; rfl) rfl rfl (by exact vcs) rfl rfl rfl ?_
 repeat (refine nst ?_)
 refine W_cond rfl (by simp) (fun h1 => ?_) (fun h1 => ?_)
 · have h1' : ¬ O.2.2 = 0 := by simpa using h1
   rw [if_neg h1'] at hRR
   subst hRR
   repeat (refine nst ?_)
   refine s_storeN rfl rfl rfl rfl rfl (by exact vcs) rfl rfl rfl (by rw [cellsOf49]; rfl) (by rw [info49]; rfl) rfl rfl ?_
   repeat (refine nst ?_)
   refine N_retU [] rfl (by simp) (r' := .tup [numA false [], lv (.int .i64 (p : Int)), lv (.int .i64 O.2.2)]) ⟨⟨.inl rfl, .inr ⟨rfl, .inl ⟨_, rfl⟩⟩, trivial⟩, .inl rfl, .inl rfl, trivial⟩ ⟨rfl, trivial, trivial, rfl⟩ hb rfl trivial
 have h1' : O.2.2 = 0 := by simpa using h1
 rw [if_pos h1'] at hRR
 repeat (refine nst ?_)
 refine s_call0 (hps) rfl rfl rfl (by rw [hn]; rfl) rfl rfl (by exact vcs) rfl rfl rfl ?_
 repeat (refine nst ?_)
 refine s_allocN rfl rfl rfl (by rw [hn]; rfl) rfl zok49 ?_
 repeat (refine nst ?_)
 refine s_storeN rfl rfl rfl rfl rfl (by exact vcs) rfl rfl rfl (by rw [cellsOf49]; rfl) (by rw [info49]; rfl) rfl rfl ?_
 repeat (refine nst ?_)
 refine W_cond rfl (by simp) (fun h2 => ?_) (fun h2 => ?_)
 · have h2' : ¬ N.2.2 = 0 := by simpa using h2
   have e := her h2'
   rw [if_neg h2', e] at hRR
   subst hRR
   repeat (refine nst ?_)
   refine s_storeN rfl rfl rfl rfl rfl (by exact vcs) rfl rfl rfl (by rw [cellsOf49]; rfl) (by rw [info49]; rfl) rfl rfl ?_
   repeat (refine nst ?_)
   refine N_retU [] rfl (by simp) (r' := .tup [numA false [], lv (.int .i64 (p : Int)), lv (.int .i64 N.2.2)]) ⟨⟨.inl rfl, .inr ⟨rfl, .inl ⟨_, rfl⟩⟩, trivial⟩, .inl rfl, .inl rfl, trivial⟩ ⟨rfl, trivial, trivial, rfl⟩ hb rfl trivial
 have h2' : N.2.2 = 0 := by simpa using h2
 rw [if_pos h2'] at hRR
 subst hRR
 obtain ⟨nb, ns, ne⟩ := N
 dsimp only at h2'
 subst h2'
 repeat (refine nst ?_)
 refine s_storeN rfl rfl rfl rfl rfl (by exact vcs) rfl rfl rfl (by rw [cellsOf49]; rfl) (by rw [info49]; rfl) rfl rfl ?_
 repeat (refine nst ?_)
 exact rt1 []

def oidR (l : List Int) (p : Nat) : List Int × Nat × Int :=
 let r := openP l p (ofT 6)
 if r.2.2 = 0 then (let x := oidP r.1; if x.2 = 0 then (x.1, r.2.1, 0) else ([], p, x.2)) else ([], p, r.2.2)
theorem oread_ok (l : List Int) (p : Nat) (hp : p ≤ l.length) (hl : l.length ≤ 1000000) (hw : WfB l) : Ct Try.prog 49 [.c (.ptr 0 0)] [curB l p] (.tup [I64 (oidR l p).1, lv (.int .i64 (oidR l p).2.2)]) [curB l (oidR l p).2.1] [] := by
 have hat := at_ok l p
 have hho := headof_ok 6
 have hop := open_ok l p (ofT 6) hp hl hw
 have hoe := open_err l p (ofT 6) hp hl hw
 have hle := openP_le l p (ofT 6) hp
 have hmem := openP_mem l p (ofT 6)
 unfold oidR
 generalize openP l p (ofT 6) = X at *
 obtain ⟨x, q, e⟩ := X
 dsimp only at *
 by_cases he : e = 0
 · subst he
   have hop := hop rfl
   rw [if_pos rfl]
   have hre := rest_ok x 0 (Nat.zero_le _) (by omega)
   rw [List.drop_zero] at hre
   have hpa := oparse_ok x (by omega) (fun y hy => hw y (hmem.2 y hy))
   have hbk := back_ok l q p hle.1 (by omega)
   generalize oidP x = Y at *
   obtain ⟨o, f⟩ := Y
   dsimp only at *
   by_cases hf : f = 0
   · subst hf
     rw [if_pos rfl]
     refine Ct_intro Try.func49 rfl rfl rfl rfl rfl (fun E hn hb => ?_)
     repeat refine nx ?_
     exact rtU []
   · rw [if_neg hf]
     refine Ct_intro Try.func49 rfl rfl rfl rfl rfl (fun E hn hb => ?_)
     repeat refine nx ?_
     exact rtU []
 · have hoe := hoe he
   rw [if_neg he]
   refine Ct_intro Try.func49 rfl rfl rfl rfl rfl (fun E hn hb => ?_)
   repeat refine nx ?_
   exact rtU []
theorem oidR_le (l : List Int) (p : Nat) (hp : p ≤ l.length) : p ≤ (oidR l p).2.1 ∧ (oidR l p).2.1 ≤ l.length := by
 have h := openP_le l p (ofT 6) hp
 unfold oidR
 dsimp only
 split
 · split
   · exact h
   · exact ⟨Nat.le_refl _, hp⟩
 · exact ⟨Nat.le_refl _, hp⟩
end Go.Proofs.Ytaagjnlkinojcaa

namespace Go.Sx
open Go
open Go.ChangeShapes Go.WideShapes Go.ChangeAt Go.RowKit Go.Joins Go.Deep
set_option linter.unusedVariables false
abbrev Was (w : World) : Nat → Prop := fun b => b < w.heap.size
theorem cell_in {w : World} {a : Addr} {v : Value} (h : w.cell? a = some v) : a.block < w.heap.size ∧ a.spot = none := by
 unfold World.cell? at h
 split at h
 · rename_i c e m hb
   refine ⟨(Array.getElem?_eq_some_iff.1 hb).1, ?_⟩
   split at h
   · cases h
   · rename_i hs; simpa using hs
 · cases h
section
variable {H : Type} {enc : TypeId × Value → H} {P : Program} {w : World} {base : Nat} {spare : Nat → Bool} {held : Bool} {fuel : Nat}
theorem open_row {t e : TypeId} {k : IntKind} {v : Value} {x : DataW H × List MemPlace} (ht : P.underlying t = some (.slice e)) (he : P.underlying e = some (.int k)) (hc : P.cellsOf e = 1)
   (h : DataW.trod enc P w base spare held fuel t [v] = some x) : ∃ l : List Int, l.length ≤ 9223372036854775807 ∧ (∀ n ∈ l, (Lit.int k n).wf = true) ∧ LfR (Was w) w (.ints k l) v := by
 rcases open_ints ht he hc h with ⟨hcs, _⟩ | ⟨a, len, cap, zs, hcs, _, hl, hm, hz, _, hcell, hw⟩
 · simp at hcs
   subst hcs
   refine ⟨[], Nat.zero_le _, ?_, LfR.ints _ _ _ _ _ rfl (Nat.le_refl _) (Nat.zero_le _) (fun h => absurd rfl h)⟩
   intro n hn
   cases hn
 · simp at hcs
   subst hcs
   have hlz : len ≤ zs.length := by rw [hz]; split <;> omega
   have hlt : (zs.take len).length = len := by simp; omega
   have hm' : cap ≤ 9223372036854775807 := hm
   refine ⟨zs.take len, by omega, fun n hn => hw n (List.mem_of_mem_take hn), LfR.ints _ _ _ _ _ hlt.symm hl hm fun hne => ?_⟩
   have h0 : 0 < len := by
     rcases Nat.eq_zero_or_pos len with h | h
     · subst h; simp at hne
     · exact h
   have hb := cell_in (hcell 0 (by omega))
   obtain ⟨b, o, sp⟩ := a
   simp only [Addr.add, if_true] at hb
   obtain ⟨hb1, hsp⟩ := hb
   subst hsp
   have hadd : ∀ i, (⟨b, o, none⟩ : Addr).add i = ⟨b, o + i, none⟩ := by
     intro i
     unfold Addr.add
     split
     · rename_i h; subst h; rfl
     · rfl
   refine ⟨b, o, rfl, hb1, fun i x hx => ?_⟩
   obtain ⟨hi, hxe⟩ := List.getElem?_eq_some_iff.1 hx
   rw [hlt] at hi
   have := hcell i (by omega)
   rw [hadd] at this
   rw [this]
   rw [List.getElem_take] at hxe
   rw [← hxe]
   simp [show i < zs.length by omega]
theorem wf_u8 {n : Int} (h : (Lit.int .u8 n).wf = true) : 0 ≤ n ∧ n < 256 := by
 simp only [Lit.wf, Bool.and_eq_true, decide_eq_true_eq] at h
 have h1 : IntKind.u8.min = 0 := by decide
 have h2 : IntKind.u8.max = 255 := by decide
 omega
theorem open_ints1 {t e : TypeId} {k : IntKind} {v : Value} {d : DataW H} {p : List MemPlace} (ht : P.underlying t = some (.slice e)) (he : P.underlying e = some (.int k)) (hc : P.cellsOf e = 1) {r : Reach} {b0 : Nat} (hv : Value.okWide P w r b0 t v)
   (h : DataW.Trod enc P w base spare held t v d p) : ∃ l : List Int, l.length ≤ 9223372036854775807 ∧ (∀ n ∈ l, (Lit.int k n).wf = true) ∧ ∀ β, AvR β (Was w) w (.c (.lf (.ints k l))) v := by
 obtain ⟨a, n, c, rfl⟩ := okWide_slice ht hv
 obtain ⟨fuel, h⟩ := h
 simp only [Value.cells] at h
 obtain ⟨l, h1, h2, h3⟩ := open_row ht he hc h
 exact ⟨l, h1, h2, fun β => .c (.lf h3)⟩
theorem Ct.calls {f : FuncId} {args : List Av} (h : Ct P f args [] (.c (.lf (.v (.bool true)))) [] []) (w : World) (vs : List Value) (hl : vs.length = args.length) (ha : ∀ (i : Nat) (x : Av) (v : Value), args[i]? = some x → vs[i]? = some v → AvR (fun _ => none) (Was w) w x v) :
   Calls P f vs.toArray w fun e w' => e = .returned (.bool true) ∧ Below w.heap.size w w' := by
 refine (h.2.2 w (fun _ => none) (Was w) vs hl ha (fun i b h => by simp at h) (fun i j g h => absurd h (Nat.not_lt_zero _)) (fun j g h => absurd h (Nat.not_lt_zero _)) (fun _ _ => rfl) (fun b hb => hb)).mono fun e w' hq => ?_
 obtain ⟨v, β', F', rfl, hr, _, _, ho⟩ := hq
 refine ⟨?_, ?_⟩
 · cases hr with | c hr => cases hr with | lf hr => cases hr with | v x h => rfl
 · have hk := ho.keep
   exact ⟨hk.os, hk.tape, hk.output, hk.size, fun k hk' => hk.block k hk' (by rintro ⟨i, hi, _⟩; exact absurd hi (Nat.not_lt_zero _))⟩
end
end Go.Sx

namespace Go.Proofs.Ytaagjnlkinojcaa
set_option linter.unusedSimpArgs false
set_option linter.unusedVariables false
open Go.Sx
set_option maxRecDepth 10000
@[simp] theorem size_str (l : List Int) : (strOfNums l).size = l.length := strOfNums_size l
end Go.Proofs.Ytaagjnlkinojcaa

namespace Go.Proofs.Ytaagjnlkinojcaa
set_option linter.unusedSimpArgs false
set_option linter.unusedVariables false
open Go.Sx
set_option maxRecDepth 10000
def tw2 (n : Int) : List Int := [48 + n / 10 % 10, 48 + n % 10]
@[simp] theorem tw2_len (n : Int) : (tw2 n).length = 2 := rfl
end Go.Proofs.Ytaagjnlkinojcaa

namespace Go.Sx
open Go
set_option linter.unusedVariables false
set_option linter.unusedSimpArgs false
theorem beqB (a b : ByteArray) : (a == b) = decide (a = b) := by
 obtain ⟨x⟩ := a
 obtain ⟨y⟩ := b
 have h : (ByteArray.mk x == ByteArray.mk y) = (x == y) := rfl
 rw [h]
 by_cases e : x = y
 · subst e; simp
 · simp [e]
abbrev MapL := List (ByteArray × Leaf)
def setM : MapL → ByteArray → Leaf → MapL
 | [], s, x => [(s, x)]
 | (k, y) :: l, s, x => if s = k then (s, x) :: l else (k, y) :: setM l s x
def MR (F : Nat → Prop) (w : World) : List MapEntry → MapL → Prop
 | [], [] => True
 | e :: ms, (k, x) :: es => e.key = .string k ∧ LfR F w x e.val ∧ MR F w ms es
 | _, _ => False
theorem MR.of {F : Nat → Prop} {w : World} : ∀ {ms : List MapEntry} {es : MapL}, ms.length = es.length → (∀ (i : Nat) (k : ByteArray) (x : Leaf), es[i]? = some (k, x) → ∃ e, ms[i]? = some e ∧ e.key = .string k ∧ LfR F w x e.val) → MR F w ms es
 | [], [], _, _ => trivial
 | [], _ :: _, h, _ => by simp at h
 | _ :: _, [], h, _ => by simp at h
 | e :: ms, (k, x) :: es, h, hx => by
   obtain ⟨e', q1, q2, q3⟩ := hx 0 k x rfl
   simp at q1
   subst q1
   exact ⟨q2, q3, MR.of (by simpa using h) fun i k x hi => by simpa using hx (i + 1) k x (by simpa using hi)⟩
theorem MR.to {F : Nat → Prop} {w : World} : ∀ {ms : List MapEntry} {es : MapL}, MR F w ms es → ms.length = es.length ∧ ∀ (i : Nat) (k : ByteArray) (x : Leaf), es[i]? = some (k, x) → ∃ e, ms[i]? = some e ∧ e.key = .string k ∧ LfR F w x e.val
 | [], [], _ => ⟨rfl, fun i k x h => by simp at h⟩
 | [], _ :: _, h => h.elim
 | _ :: _, [], h => h.elim
 | e :: ms, (k, x) :: es, ⟨h1, h2, h3⟩ => by
   obtain ⟨q1, q2⟩ := h3.to
   refine ⟨by simp [q1], fun i k' x' hi => ?_⟩
   cases i with
   | zero => simp at hi; obtain ⟨rfl, rfl⟩ := hi; exact ⟨e, rfl, h1, h2⟩
   | succ i => simpa using q2 i k' x' (by simpa using hi)
theorem MR.set {F : Nat → Prop} {w : World} {s : ByteArray} {x : Leaf} {v : Value} (hx : LfR F w x v) : ∀ {ms : List MapEntry} {es : MapL} (i0 : Nat), MR F w ms es →
   match Instr.findNow .string (.string s) ms i0 with
   | some (some (i, _)) => i0 ≤ i ∧ MR F w (ms.modify (i - i0) fun e => { e with key := .string s, val := v }) (setM es s x)
   | some none => ∀ b, MR F w (ms ++ [{ key := .string s, val := v, born := b }]) (setM es s x)
   | none => False
 | [], [], i0, _ => by intro b; exact ⟨rfl, hx, trivial⟩
 | [], _ :: _, _, h => h.elim
 | _ :: _, [], _, h => h.elim
 | e :: ms, (k, y) :: es, i0, ⟨h1, h2, h3⟩ => by
   unfold setM Instr.findNow
   rw [h1]
   by_cases hk : s = k
   · subst hk
     have hb : Instr.sameNow .string (.string s) (.string s) = some true := by simp [Instr.sameNow, beqB]
     rw [hb]
     dsimp only
     rw [if_pos rfl, Nat.sub_self]
     refine ⟨Nat.le_refl _, ?_⟩
     simp only [List.modify_zero_cons]
     exact ⟨rfl, hx, h3⟩
   · have hb : Instr.sameNow .string (.string s) (.string k) = some false := by simp [Instr.sameNow, beqB, hk]
     rw [hb, if_neg hk]
     dsimp only
     have ih := MR.set hx (i0 + 1) h3 (s := s)
     revert ih
     cases hf : Instr.findNow .string (.string s) ms (i0 + 1) with
     | none => exact fun h => h.elim
     | some r =>
       cases r with
       | none => exact fun h b => ⟨h1, h2, h b⟩
       | some p =>
         obtain ⟨i, v'⟩ := p
         rintro ⟨q1, q2⟩
         refine ⟨by omega, ?_⟩
         have e : i - i0 = (i - (i0 + 1)) + 1 := by omega
         rw [e, List.modify_succ_cons]
         exact ⟨h1, h2, q2⟩
section
variable {P : Program} {E : Env} {ops : Array Oper} {Q : Exit → Act → World → Prop} {rest : List Oper} {o : Oper} {σ : St}
section
variable {ns b own : List Nat} {bs : List (List Nat × List Nat)} {l : List Oper} {K : St → Prop}
end
end
end Go.Sx

/-
  Chapter 02: lengths that are read. The conditions: rows of at most a million bytes.
-/
import Derived.Test.YtaagjnlkinojcaaGreatDoorC4
namespace Go.Proofs.YtaagjnlkinojcaaGreatDoor
set_option linter.unusedSimpArgs false
set_option linter.unusedVariables false
open Go.Sx
set_option maxRecDepth 10000
theorem long_ok (l : List Int) (p n : Nat) (hn1 : 1 ≤ n) (hn4 : n ≤ 4) (hp : p ≤ l.length) (hl : l.length ≤ 1000000) (hw : WfB l) : Ct Tryz.prog 132 [.c (.ptr 0 0), lv (.int .i64 (n : Int))] [curB l p] (numR (longP l p n)) [curB l (longP l p n).2.1] [] := by
 generalize hRR : longP l p n = R
 unfold longP at hRR
 refine Ct_intro Tryz.func132 rfl rfl rfl rfl rfl (fun E hn hb => ?_)
 repeat (refine nst ?_)
 by_cases hpe : l.length < p + n
 · rw [if_pos hpe] at hRR
   subst hRR
   have ht := take_err l p n (by omega) hp (by omega) hl
   refine s_call [0] ht rfl rfl (by rw [hn]; rfl) rfl rfl (by trivial) ⟨rfl, rfl, (by simp [ordL]), rfl⟩ ?_
   repeat (refine nst ?_)
   refine W_cond rfl (by simp) (fun h1 => ?_) (fun h1 => ?_)
   · repeat (refine nst ?_)
     exact rt1 []
   · simp at h1
 · rw [if_neg hpe] at hRR
   have ht := take_ok l p n (by omega) hl
   have hxl : ((l.drop p).take n).length = n := by simp; omega
   have hx0 : l.getD p 0 = ((l.drop p).take n).getD 0 0 := by
     simp only [List.getD_eq_getElem?_getD, List.getElem?_take, List.getElem?_drop]
     rw [if_pos (by omega), Nat.add_zero]
   have hxw : WfB ((l.drop p).take n) := fun x hx => hw x (List.mem_of_mem_drop (List.mem_of_mem_take hx))
   rw [hx0] at hRR
   generalize (l.drop p).take n = x at *
   refine s_call [0] ht rfl rfl (by rw [hn]; rfl) rfl rfl (by trivial) ⟨rfl, rfl, (by simp [ordL]), rfl⟩ ?_
   repeat (refine nst ?_)
   refine W_cond rfl (by simp) (fun h1 => ?_) (fun h1 => ?_)
   · simp at h1
   repeat (refine nst ?_)
   refine W_weaken (St.le_of (l := [(6, B8 x), (8, lv (.int .i64 (valA 0 (x.take 0)))), (20, B8 x), (21, lv (.int .i64 (x.length : Int))), (22, lv (.int .i64 ((0 : Nat) : Int)))]) (h := [(0, curB l (p + n))]) (by refine ⟨?_, ?_⟩ <;> (repeat' (first | exact trivial | exact rfl | refine ⟨?_, ?_⟩)) <;> first | exact rfl | (simp; done) | skip)) ?_
   refine W_loop (ι := {i : Nat // i ≤ x.length}) (fun i => St.of [(6, B8 x), (8, lv (.int .i64 (valA 0 (x.take i.1)))), (20, B8 x), (21, lv (.int .i64 (x.length : Int))), (22, lv (.int .i64 (i.1 : Int)))] [(0, curB l (p + n))]) (fun i => x.length - i.1) (fun i => ?_) ⟨0, by omega⟩
   obtain ⟨i, hi⟩ := i
   dsimp only
   have hwt : WfB (x.take i) := wf_take hxw i
   have hv0 := val_nonneg (x.take i) 0 (by decide) hwt
   have hv1 : valA 0 (x.take i) < 256 ^ 4 := val_lt (x.take i) 4 (by simp; omega) hwt
   repeat (refine nst ?_)
   refine W_cond rfl (by simp) (fun hc => ?_) (fun hc => ?_)
   · have hi8 : i < x.length := by simp at hc; omega
     have hx := hxw x[i] (List.getElem_mem hi8)
     have hT : x.take (i + 1) = x.take i ++ [x[i]] := by rw [List.take_add_one, List.getElem?_eq_getElem hi8]; rfl
     have hg : x.getD (i : Int).toNat 0 = x[i] := by simp [hi8]
     have hvs := val_snoc (x.take i) x[i]
     rw [← hT] at hvs
     generalize valA 0 (x.take i) = v at *
     have hv2 : v < 4294967296 := by omega
     clear hv1
     repeat (refine nst ?_)
     rw [hg]
     rw [or8i v x[i] ⟨hv0, by omega⟩ hx]
     repeat (refine nst ?_)
     refine N_round ⟨i + 1, by omega⟩ (by dsimp only; omega) (St.le_of ⟨⟨rfl, ?_, rfl, rfl, rfl⟩, rfl⟩)
     show lv (.int .i64 (256 * v + x[i])) = lv (.int .i64 (valA 0 (x.take (i + 1))))
     rw [hvs]
   · have : i = x.length := by simp at hc; omega
     subst this
     rw [List.take_length] at *
     generalize valA 0 x = v at *
     repeat (refine nst ?_)
     rw [show Int.toNat 0 = 0 from rfl]
     generalize x.getD 0 0 = z at *
     refine W_cond rfl (by simp) (fun h2 => ?_) (fun h2 => ?_)
     · have h2' : z = 0 ∨ v < 128 := by
         by_cases hz : z = 0
         · exact .inl hz
         · simp [hz] at h2; exact .inr h2
       rw [if_pos h2'] at hRR
       subst hRR
       repeat (refine nst ?_)
       exact rt1 []
     · have h2' : ¬ (z = 0 ∨ v < 128) := by
         rintro (rfl | h)
         · simp at h2
         · simp [h] at h2
       rw [if_neg h2'] at hRR
       repeat (refine nst ?_)
       refine W_cond rfl (by simp) (fun h3 => ?_) (fun h3 => ?_)
       · have h3' : 16777216 < v := by simpa using h3
         rw [if_pos h3'] at hRR
         subst hRR
         repeat (refine nst ?_)
         exact rt1 []
       · have h3' : ¬ 16777216 < v := by simpa using h3
         rw [if_neg h3'] at hRR
         subst hRR
         repeat (refine nst ?_)
         exact rt1 []
theorem keptI_ok (g : FuncId) (l : List Int) (p q : Nat) (t : Int) (hg : Ct Tryz.prog g [.c (.ptr 1 0)] [curB l p, ptrB] (.tup [lv (.int .i64 t), lv (.int .i64 0)]) [curB l q, ptrB] []) :
   Ct Tryz.prog 130 [.c (.ptr 0 0), .c (.fn (.func g) [] [.ptr 1 0])] [curB l p, ptrB] (.tup [lv (.int .i64 t), lv (.int .i64 0)]) [curB l q, ptrB] [] := by
 refine Ct_intro Tryz.func130 rfl rfl rfl rfl rfl (fun E hn hb => ?_)
 repeat (refine nst ?_)
 refine WL_q (opq_of (opy_callL (at_ok l p) rfl rfl rfl (by exact vcs) ⟨.inr (.inr ⟨0, 0, _, _, rfl, rfl, rfl, rfl⟩), trivial⟩ rfl) rfl) (by rw [hn]; rfl) ?_
 repeat (refine nst ?_)
 refine s_call [0, 1] hg rfl rfl (by rw [hn]; rfl) rfl rfl (by trivial) ⟨rfl, ⟨rfl, rfl⟩, (by simp [ordL]), rfl⟩ ?_
 repeat (refine nst ?_)
 refine W_cond rfl (by simp) (fun h1 => ?_) (fun h1 => ?_)
 · simp at h1
 repeat (refine nst ?_)
 exact rt1 []
theorem keptI_err (g : FuncId) (l : List Int) (p q : Nat) (t : Int) (e : Int) (he : e ≠ 0) (hq : p ≤ q) (hl : q ≤ 1000000) (hg : Ct Tryz.prog g [.c (.ptr 1 0)] [curB l p, ptrB] (.tup [lv (.int .i64 t), lv (.int .i64 e)]) [curB l q, ptrB] []) :
   Ct Tryz.prog 130 [.c (.ptr 0 0), .c (.fn (.func g) [] [.ptr 1 0])] [curB l p, ptrB] (.tup [lv (.int .i64 0), lv (.int .i64 e)]) [curB l p, ptrB] [] := by
 have hbk := back_ok l q p hq hl
 refine Ct_intro Tryz.func130 rfl rfl rfl rfl rfl (fun E hn hb => ?_)
 repeat (refine nst ?_)
 refine WL_q (opq_of (opy_callL (at_ok l p) rfl rfl rfl (by exact vcs) ⟨.inr (.inr ⟨0, 0, _, _, rfl, rfl, rfl, rfl⟩), trivial⟩ rfl) rfl) (by rw [hn]; rfl) ?_
 repeat (refine nst ?_)
 refine s_call [0, 1] hg rfl rfl (by rw [hn]; rfl) rfl rfl (by trivial) ⟨rfl, ⟨rfl, rfl⟩, (by simp [ordL]), rfl⟩ ?_
 repeat (refine nst ?_)
 refine W_cond rfl (by simp) (fun h1 => ?_) (fun h1 => ?_)
 · repeat (refine nst ?_)
   refine s_call [0] hbk rfl rfl (by rw [hn]; rfl) rfl rfl (by trivial) ⟨rfl, rfl, (by simp [ordL]), rfl⟩ ?_
   repeat (refine nst ?_)
   exact rt1 []
 · simp [he] at h1
theorem rawL_ok (l : List Int) (p : Nat) (hp : p ≤ l.length) (hl : l.length ≤ 1000000) (hw : WfB l) : Ct Tryz.prog 131 [.c (.ptr 1 0)] [curB l p, ptrB] (numR (rawL l p)) [curB l (rawL l p).2.1, ptrB] [] := by
 generalize hRR : rawL l p = R
 unfold rawL at hRR
 refine Ct_intro Tryz.func131 rfl rfl rfl rfl rfl (fun E hn hb => ?_)
 repeat (refine nst ?_)
 by_cases hpe : p < l.length
 · rw [if_pos hpe] at hRR
   have hd := getD_wf hw p
   have hby := byte_ok l p hpe hl
   generalize l.getD p 0 = d at *
   have ha := and127 hd
   refine s_call [0] hby rfl rfl (by rw [hn]; rfl) rfl rfl (by trivial) ⟨rfl, rfl, (by simp [ordL]), rfl⟩ ?_
   repeat (refine nst ?_)
   refine W_cond rfl (by simp) (fun h1 => ?_) (fun h1 => ?_)
   · simp at h1
   repeat (refine nst ?_)
   refine W_cond rfl (by simp) (fun h2 => ?_) (fun h2 => ?_)
   · have h2' : d < 128 := by simpa using h2
     rw [if_pos h2'] at hRR
     subst hRR
     repeat (refine nst ?_)
     exact rt1 []
   · have h2' : ¬ d < 128 := by simpa using h2
     rw [if_neg h2'] at hRR
     repeat (refine nst ?_)
     refine W_cond rfl (by simp) (fun h3 => ?_) (fun h3 => ?_)
     · have h3' : d = 128 ∨ 132 < d := by
         by_cases hz : d = 128
         · exact .inl hz
         · simp [hz] at h3; exact .inr h3
       rw [if_pos h3'] at hRR
       subst hRR
       repeat (refine nst ?_)
       exact rt1 []
     · have h3' : ¬ (d = 128 ∨ 132 < d) := by
         rintro (rfl | h)
         · simp at h3
         · simp [h] at h3
       rw [if_neg h3'] at hRR
       subst hRR
       obtain ⟨n, hn'⟩ : ∃ n : Nat, d % 128 = (n : Int) := ⟨(d % 128).toNat, by omega⟩
       have hlg := long_ok l (p + 1) n (by omega) (by omega) (by omega) hl hw
       rw [hn'] at ha ⊢
       rw [Int.toNat_natCast]
       generalize longP l (p + 1) n = N at *
       repeat (refine nst ?_)
       rw [ha]
       refine s_call [0] hlg rfl rfl (by rw [hn]; rfl) rfl rfl (by trivial) ⟨rfl, rfl, (by simp [ordL]), rfl⟩ ?_
       repeat (refine nst ?_)
       exact rt1 []
 · rw [if_neg hpe] at hRR
   subst hRR
   have e : p = l.length := by omega
   subst e
   have hby := byte_end l hl
   refine s_call [0] hby rfl rfl (by rw [hn]; rfl) rfl rfl (by trivial) ⟨rfl, rfl, (by simp [ordL]), rfl⟩ ?_
   repeat (refine nst ?_)
   refine W_cond rfl (by simp) (fun h1 => ?_) (fun h1 => ?_)
   · repeat (refine nst ?_)
     exact rt1 []
   · simp at h1
theorem readLen_ok (l : List Int) (p : Nat) (hp : p ≤ l.length) (hl : l.length ≤ 1000000) (hw : WfB l) : Ct Tryz.prog 102 [.c (.ptr 0 0)] [curB l p] (numR (lenP l p)) [curB l (lenP l p).2.1] [] := by
 have hr := rawL_ok l p hp hl hw
 have hle := rawL_le l p hp
 generalize hRR : lenP l p = R
 unfold lenP at hRR
 by_cases he : (rawL l p).2.2 = 0
 · rw [keepP_ok _ _ _ he] at hRR
   rw [hRR] at hr he hle
   unfold numR at hr ⊢
   rw [he] at hr ⊢
   have hk := keptI_ok 131 l p R.2.1 R.1 hr
   refine Ct_intro Tryz.func102 rfl rfl rfl rfl rfl (fun E hn hb => ?_)
   repeat (refine nst ?_)
   refine s_boxN rfl rfl rfl (by rw [hn]; rfl) rfl (by exact vcs) rfl rfl ?_
   repeat (refine nst ?_)
   refine s_call [0, 65] hk rfl rfl (by rw [hn]; rfl) rfl rfl (by trivial) ⟨rfl, ⟨rfl, rfl⟩, (by simp [ordL]), rfl⟩ ?_
   repeat (refine nst ?_)
   exact rt1 []
 · rw [keepP_err _ _ _ he] at hRR
   subst hRR
   generalize rawL l p = R at *
   have hk := keptI_err 131 l p R.2.1 R.1 R.2.2 he hle.1 (by omega) hr
   refine Ct_intro Tryz.func102 rfl rfl rfl rfl rfl (fun E hn hb => ?_)
   repeat (refine nst ?_)
   refine s_boxN rfl rfl rfl (by rw [hn]; rfl) rfl (by exact vcs) rfl rfl ?_
   repeat (refine nst ?_)
   refine s_call [0, 65] hk rfl rfl (by rw [hn]; rfl) rfl rfl (by trivial) ⟨rfl, ⟨rfl, rfl⟩, (by simp [ordL]), rfl⟩ ?_
   repeat (refine nst ?_)
   exact rt1 []
end Go.Proofs.YtaagjnlkinojcaaGreatDoor

/-
  Chapter 02: what stands ahead of contents, and contents. The conditions: rows of at most a million bytes.
-/
import Derived.Test.YtohfhephkjihfaaGreatC4
namespace Go.Proofs.YtohfhephkjihfaaGreat
set_option linter.unusedSimpArgs false
set_option linter.unusedVariables false
open Go.Sx
set_option maxRecDepth 10000
theorem long_ok (l : List Int) (p n : Nat) (hn1 : 1 ≤ n) (hn4 : n ≤ 4) (hp : p ≤ l.length) (hl : l.length ≤ 1000000) (hw : WfB l) : Ct Tryz.prog 128 [.c (.ptr 0 0), lv (.int .i64 (n : Int))] [curB l p] (numR (longP l p n)) [curB l (longP l p n).2.1] [] := by
 generalize hRR : longP l p n = R
 unfold longP at hRR
 refine Ct_intro Tryz.func128 rfl rfl rfl rfl rfl (fun E hn hb => ?_)
 repeat (refine nst ?_)
 by_cases hpe : l.length < p + n
 · rw [if_pos hpe] at hRR
   subst hRR
   have ht := take_err l p n (by omega) hp (by omega) hl
   refine s_call [0] ht rfl rfl (by rw [hn]; rfl) rfl rfl (by trivial) ⟨rfl, rfl, (by simp [ordL]), rfl⟩ ?_
   repeat (refine nst ?_)
   refine W_cond rfl (by simp) (fun h1 => ?_) (fun h1 => ?_)
   · repeat (refine nst ?_)
     exact rt1 []
   · simp at h1
 · rw [if_neg hpe] at hRR
   have ht := take_ok l p n (by omega) hl
   have hxl : ((l.drop p).take n).length = n := by simp; omega
   have hx0 : l.getD p 0 = ((l.drop p).take n).getD 0 0 := by
     simp only [List.getD_eq_getElem?_getD, List.getElem?_take, List.getElem?_drop]
     rw [if_pos (by omega), Nat.add_zero]
   have hxw : WfB ((l.drop p).take n) := fun x hx => hw x (List.mem_of_mem_drop (List.mem_of_mem_take hx))
   rw [hx0] at hRR
   generalize (l.drop p).take n = x at *
   refine s_call [0] ht rfl rfl (by rw [hn]; rfl) rfl rfl (by trivial) ⟨rfl, rfl, (by simp [ordL]), rfl⟩ ?_
   repeat (refine nst ?_)
   refine W_cond rfl (by simp) (fun h1 => ?_) (fun h1 => ?_)
   · simp at h1
   repeat (refine nst ?_)
   refine W_weaken (St.le_of (l := [(6, B8 x), (8, lv (.int .i64 (valA 0 (x.take 0)))), (20, B8 x), (21, lv (.int .i64 (x.length : Int))), (22, lv (.int .i64 ((0 : Nat) : Int)))]) (h := [(0, curB l (p + n))]) (by refine ⟨?_, ?_⟩ <;> (repeat' (first | exact trivial | exact rfl | refine ⟨?_, ?_⟩)) <;> first | exact rfl | (simp; done) | skip)) ?_
   refine W_loop (ι := {i : Nat // i ≤ x.length}) (fun i => St.of [(6, B8 x), (8, lv (.int .i64 (valA 0 (x.take i.1)))), (20, B8 x), (21, lv (.int .i64 (x.length : Int))), (22, lv (.int .i64 (i.1 : Int)))] [(0, curB l (p + n))]) (fun i => x.length - i.1) (fun i => ?_) ⟨0, by omega⟩
   obtain ⟨i, hi⟩ := i
   dsimp only
   have hwt : WfB (x.take i) := wf_take hxw i
   have hv0 := val_nonneg (x.take i) 0 (by decide) hwt
   have hv1 : valA 0 (x.take i) < 256 ^ 4 := val_lt (x.take i) 4 (by simp; omega) hwt
   repeat (refine nst ?_)
   refine W_cond rfl (by simp) (fun hc => ?_) (fun hc => ?_)
   · have hi8 : i < x.length := by simp at hc; omega
     have hx := hxw x[i] (List.getElem_mem hi8)
     have hT : x.take (i + 1) = x.take i ++ [x[i]] := by rw [List.take_add_one, List.getElem?_eq_getElem hi8]; rfl
     have hg : x.getD (i : Int).toNat 0 = x[i] := by simp [hi8]
     have hvs := val_snoc (x.take i) x[i]
     rw [← hT] at hvs
     generalize valA 0 (x.take i) = v at *
     have hv2 : v < 4294967296 := by omega
     clear hv1
     repeat (refine nst ?_)
     rw [hg]
     rw [or8i v x[i] ⟨hv0, by omega⟩ hx]
     repeat (refine nst ?_)
     refine N_round ⟨i + 1, by omega⟩ (by dsimp only; omega) (St.le_of ⟨⟨rfl, ?_, rfl, rfl, rfl⟩, rfl⟩)
     show lv (.int .i64 (256 * v + x[i])) = lv (.int .i64 (valA 0 (x.take (i + 1))))
     rw [hvs]
   · have : i = x.length := by simp at hc; omega
     subst this
     rw [List.take_length] at *
     generalize valA 0 x = v at *
     repeat (refine nst ?_)
     rw [show Int.toNat 0 = 0 from rfl]
     generalize x.getD 0 0 = z at *
     refine W_cond rfl (by simp) (fun h2 => ?_) (fun h2 => ?_)
     · have h2' : z = 0 ∨ v < 128 := by
         by_cases hz : z = 0
         · exact .inl hz
         · simp [hz] at h2; exact .inr h2
       rw [if_pos h2'] at hRR
       subst hRR
       repeat (refine nst ?_)
       exact rt1 []
     · have h2' : ¬ (z = 0 ∨ v < 128) := by
         rintro (rfl | h)
         · simp at h2
         · simp [h] at h2
       rw [if_neg h2'] at hRR
       repeat (refine nst ?_)
       refine W_cond rfl (by simp) (fun h3 => ?_) (fun h3 => ?_)
       · have h3' : 16777216 < v := by simpa using h3
         rw [if_pos h3'] at hRR
         subst hRR
         repeat (refine nst ?_)
         exact rt1 []
       · have h3' : ¬ 16777216 < v := by simpa using h3
         rw [if_neg h3'] at hRR
         subst hRR
         repeat (refine nst ?_)
         exact rt1 []
theorem keptI_ok (g : FuncId) (l : List Int) (p q : Nat) (t : Int) (hg : Ct Tryz.prog g [.c (.ptr 1 0)] [curB l p, ptrB] (.tup [lv (.int .i64 t), lv (.int .i64 0)]) [curB l q, ptrB] []) :
   Ct Tryz.prog 126 [.c (.ptr 0 0), .c (.fn (.func g) [] [.ptr 1 0])] [curB l p, ptrB] (.tup [lv (.int .i64 t), lv (.int .i64 0)]) [curB l q, ptrB] [] := by
 refine Ct_intro Tryz.func126 rfl rfl rfl rfl rfl (fun E hn hb => ?_)
 repeat (refine nst ?_)
 refine WL_q (opq_of (opy_callL (at_ok l p) rfl rfl rfl (by exact vcs) ⟨.inr (.inr ⟨0, 0, _, _, rfl, rfl, rfl, rfl⟩), trivial⟩ rfl) rfl) (by rw [hn]; rfl) ?_
 repeat (refine nst ?_)
 refine s_call [0, 1] hg rfl rfl (by rw [hn]; rfl) rfl rfl (by trivial) ⟨rfl, ⟨rfl, rfl⟩, (by simp [ordL]), rfl⟩ ?_
 repeat (refine nst ?_)
 refine W_cond rfl (by simp) (fun h1 => ?_) (fun h1 => ?_)
 · simp at h1
 repeat (refine nst ?_)
 exact rt1 []
theorem keptI_err (g : FuncId) (l : List Int) (p q : Nat) (t : Int) (e : Int) (he : e ≠ 0) (hq : p ≤ q) (hl : q ≤ 1000000) (hg : Ct Tryz.prog g [.c (.ptr 1 0)] [curB l p, ptrB] (.tup [lv (.int .i64 t), lv (.int .i64 e)]) [curB l q, ptrB] []) :
   Ct Tryz.prog 126 [.c (.ptr 0 0), .c (.fn (.func g) [] [.ptr 1 0])] [curB l p, ptrB] (.tup [lv (.int .i64 0), lv (.int .i64 e)]) [curB l p, ptrB] [] := by
 have hbk := back_ok l q p hq hl
 refine Ct_intro Tryz.func126 rfl rfl rfl rfl rfl (fun E hn hb => ?_)
 repeat (refine nst ?_)
 refine WL_q (opq_of (opy_callL (at_ok l p) rfl rfl rfl (by exact vcs) ⟨.inr (.inr ⟨0, 0, _, _, rfl, rfl, rfl, rfl⟩), trivial⟩ rfl) rfl) (by rw [hn]; rfl) ?_
 repeat (refine nst ?_)
 refine s_call [0, 1] hg rfl rfl (by rw [hn]; rfl) rfl rfl (by trivial) ⟨rfl, ⟨rfl, rfl⟩, (by simp [ordL]), rfl⟩ ?_
 repeat (refine nst ?_)
 refine W_cond rfl (by simp) (fun h1 => ?_) (fun h1 => ?_)
 · repeat (refine nst ?_)
   refine s_call [0] hbk rfl rfl (by rw [hn]; rfl) rfl rfl (by trivial) ⟨rfl, rfl, (by simp [ordL]), rfl⟩ ?_
   repeat (refine nst ?_)
   exact rt1 []
 · simp [he] at h1
theorem rawL_ok (l : List Int) (p : Nat) (hp : p ≤ l.length) (hl : l.length ≤ 1000000) (hw : WfB l) : Ct Tryz.prog 127 [.c (.ptr 1 0)] [curB l p, ptrB] (numR (rawL l p)) [curB l (rawL l p).2.1, ptrB] [] := by
 generalize hRR : rawL l p = R
 unfold rawL at hRR
 refine Ct_intro Tryz.func127 rfl rfl rfl rfl rfl (fun E hn hb => ?_)
 repeat (refine nst ?_)
 by_cases hpe : p < l.length
 · rw [if_pos hpe] at hRR
   have hd := getD_wf hw p
   have hby := byte_ok l p hpe hl
   generalize l.getD p 0 = d at *
   have ha := and127 hd
   refine s_call [0] hby rfl rfl (by rw [hn]; rfl) rfl rfl (by trivial) ⟨rfl, rfl, (by simp [ordL]), rfl⟩ ?_
   repeat (refine nst ?_)
   refine W_cond rfl (by simp) (fun h1 => ?_) (fun h1 => ?_)
   · simp at h1
   repeat (refine nst ?_)
   refine W_cond rfl (by simp) (fun h2 => ?_) (fun h2 => ?_)
   · have h2' : d < 128 := by simpa using h2
     rw [if_pos h2'] at hRR
     subst hRR
     repeat (refine nst ?_)
     exact rt1 []
   · have h2' : ¬ d < 128 := by simpa using h2
     rw [if_neg h2'] at hRR
     repeat (refine nst ?_)
     refine W_cond rfl (by simp) (fun h3 => ?_) (fun h3 => ?_)
     · have h3' : d = 128 ∨ 132 < d := by
         by_cases hz : d = 128
         · exact .inl hz
         · simp [hz] at h3; exact .inr h3
       rw [if_pos h3'] at hRR
       subst hRR
       repeat (refine nst ?_)
       exact rt1 []
     · have h3' : ¬ (d = 128 ∨ 132 < d) := by
         rintro (rfl | h)
         · simp at h3
         · simp [h] at h3
       rw [if_neg h3'] at hRR
       subst hRR
       obtain ⟨n, hn'⟩ : ∃ n : Nat, d % 128 = (n : Int) := ⟨(d % 128).toNat, by omega⟩
       have hlg := long_ok l (p + 1) n (by omega) (by omega) (by omega) hl hw
       rw [hn'] at ha ⊢
       rw [Int.toNat_natCast]
       generalize longP l (p + 1) n = N at *
       repeat (refine nst ?_)
       rw [ha]
       refine s_call [0] hlg rfl rfl (by rw [hn]; rfl) rfl rfl (by trivial) ⟨rfl, rfl, (by simp [ordL]), rfl⟩ ?_
       repeat (refine nst ?_)
       exact rt1 []
 · rw [if_neg hpe] at hRR
   subst hRR
   have e : p = l.length := by omega
   subst e
   have hby := byte_end l hl
   refine s_call [0] hby rfl rfl (by rw [hn]; rfl) rfl rfl (by trivial) ⟨rfl, rfl, (by simp [ordL]), rfl⟩ ?_
   repeat (refine nst ?_)
   refine W_cond rfl (by simp) (fun h1 => ?_) (fun h1 => ?_)
   · repeat (refine nst ?_)
     exact rt1 []
   · simp at h1
theorem readLen_ok (l : List Int) (p : Nat) (hp : p ≤ l.length) (hl : l.length ≤ 1000000) (hw : WfB l) : Ct Tryz.prog 109 [.c (.ptr 0 0)] [curB l p] (numR (lenP l p)) [curB l (lenP l p).2.1] [] := by
 have hr := rawL_ok l p hp hl hw
 have hle := rawL_le l p hp
 generalize hRR : lenP l p = R
 unfold lenP at hRR
 by_cases he : (rawL l p).2.2 = 0
 · rw [keepP_ok _ _ _ he] at hRR
   rw [hRR] at hr he hle
   unfold numR at hr ⊢
   rw [he] at hr ⊢
   have hk := keptI_ok 127 l p R.2.1 R.1 hr
   refine Ct_intro Tryz.func109 rfl rfl rfl rfl rfl (fun E hn hb => ?_)
   repeat (refine nst ?_)
   refine s_boxN rfl rfl rfl (by rw [hn]; rfl) rfl (by exact vcs) rfl rfl ?_
   repeat (refine nst ?_)
   refine s_call [0, 65] hk rfl rfl (by rw [hn]; rfl) rfl rfl (by trivial) ⟨rfl, ⟨rfl, rfl⟩, (by simp [ordL]), rfl⟩ ?_
   repeat (refine nst ?_)
   exact rt1 []
 · rw [keepP_err _ _ _ he] at hRR
   subst hRR
   generalize rawL l p = R at *
   have hk := keptI_err 127 l p R.2.1 R.1 R.2.2 he hle.1 (by omega) hr
   refine Ct_intro Tryz.func109 rfl rfl rfl rfl rfl (fun E hn hb => ?_)
   repeat (refine nst ?_)
   refine s_boxN rfl rfl rfl (by rw [hn]; rfl) rfl (by exact vcs) rfl rfl ?_
   repeat (refine nst ?_)
   refine s_call [0, 65] hk rfl rfl (by rw [hn]; rfl) rfl rfl (by trivial) ⟨rfl, ⟨rfl, rfl⟩, (by simp [ordL]), rfl⟩ ?_
   repeat (refine nst ?_)
   exact rt1 []

abbrev frA (f : TagP × Int) : Av := .agg [.lf (.v (.int .i64 f.1.1)), .lf (.v (.int .i64 f.1.2.1)), .lf (.v (.bool f.1.2.2)), .lf (.v (.int .i64 f.2))]
abbrev frE (f : TagP × Int) (e : Int) : Av := .tup [frA f, lv (.int .i64 e)]
theorem keepP_stay {α : Type} (z : α) (p : Nat) (r : α × Nat × Int) (h : ¬ (keepP z p r).2.2 = 0) : (keepP z p r).2.1 = p := by
 unfold keepP at h ⊢
 split
 · rename_i h2
   rw [if_pos h2] at h
   exact absurd h2 h
 · rfl
theorem keptF_ok (g : FuncId) (l : List Int) (p q : Nat) (t : TagP × Int) (hg : Ct Tryz.prog g [.c (.ptr 1 0)] [curB l p, ptrB] (frE t 0) [curB l q, ptrB] []) :
   Ct Tryz.prog 106 [.c (.ptr 0 0), .c (.fn (.func g) [] [.ptr 1 0])] [curB l p, ptrB] (frE t 0) [curB l q, ptrB] [] := by
 refine Ct_intro Tryz.func106 rfl rfl rfl rfl rfl (fun E hn hb => ?_)
 repeat (refine nst ?_)
 refine s_allocN rfl rfl rfl (by rw [hn]; rfl) rfl zok145 ?_
 repeat (refine nst ?_)
 refine WL_q (opq_of (opy_callL (at_ok l p) rfl rfl rfl (by exact vcs) ⟨.inr (.inr ⟨0, 0, _, _, rfl, rfl, rfl, rfl⟩), trivial⟩ rfl) rfl) (by rw [hn]; rfl) ?_
 repeat (refine nst ?_)
 refine s_call [0, 1] hg rfl rfl (by rw [hn]; rfl) rfl rfl (by trivial) ⟨rfl, ⟨rfl, rfl⟩, (by simp [ordL]), rfl⟩ ?_
 repeat (refine nst ?_)
 refine s_allocN rfl rfl rfl (by rw [hn]; rfl) rfl zok145 ?_
 repeat (refine nst ?_)
 refine s_storeN rfl rfl rfl rfl rfl (by exact vcs) rfl rfl rfl (by rw [cellsOf145]; rfl) (by rw [info145]; rfl) rfl rfl ?_
 repeat (refine nst ?_)
 refine W_cond rfl (by simp) (fun h1 => ?_) (fun h1 => ?_)
 · simp at h1
 repeat (refine nst ?_)
 refine s_storeN rfl rfl rfl rfl rfl (by exact vcs) rfl rfl rfl (by rw [cellsOf145]; rfl) (by rw [info145]; rfl) rfl rfl ?_
 repeat (refine nst ?_)
 exact rt1 []
theorem keptF_err (g : FuncId) (l : List Int) (p q : Nat) (t : TagP × Int) (e : Int) (he : e ≠ 0) (hq : p ≤ q) (hl : q ≤ 1000000) (hg : Ct Tryz.prog g [.c (.ptr 1 0)] [curB l p, ptrB] (frE t e) [curB l q, ptrB] []) :
   Ct Tryz.prog 106 [.c (.ptr 0 0), .c (.fn (.func g) [] [.ptr 1 0])] [curB l p, ptrB] (frE (tag0, 0) e) [curB l p, ptrB] [] := by
 have hbk := back_ok l q p hq hl
 refine Ct_intro Tryz.func106 rfl rfl rfl rfl rfl (fun E hn hb => ?_)
 repeat (refine nst ?_)
 refine s_allocN rfl rfl rfl (by rw [hn]; rfl) rfl zok145 ?_
 repeat (refine nst ?_)
 refine WL_q (opq_of (opy_callL (at_ok l p) rfl rfl rfl (by exact vcs) ⟨.inr (.inr ⟨0, 0, _, _, rfl, rfl, rfl, rfl⟩), trivial⟩ rfl) rfl) (by rw [hn]; rfl) ?_
 repeat (refine nst ?_)
 refine s_call [0, 1] hg rfl rfl (by rw [hn]; rfl) rfl rfl (by trivial) ⟨rfl, ⟨rfl, rfl⟩, (by simp [ordL]), rfl⟩ ?_
 repeat (refine nst ?_)
 refine s_allocN rfl rfl rfl (by rw [hn]; rfl) rfl zok145 ?_
 repeat (refine nst ?_)
 refine s_storeN rfl rfl rfl rfl rfl (by exact vcs) rfl rfl rfl (by rw [cellsOf145]; rfl) (by rw [info145]; rfl) rfl rfl ?_
 repeat (refine nst ?_)
 refine W_cond rfl (by simp) (fun h1 => ?_) (fun h1 => ?_)
 · repeat (refine nst ?_)
   refine s_allocN rfl rfl rfl (by rw [hn]; rfl) rfl zok145 ?_
   repeat (refine nst ?_)
   refine s_call [0] hbk rfl rfl (by rw [hn]; rfl) rfl rfl (by trivial) ⟨rfl, rfl, (by simp [ordL]), rfl⟩ ?_
   repeat (refine nst ?_)
   refine s_storeN rfl rfl rfl rfl rfl (by exact vcs) rfl rfl rfl (by rw [cellsOf145]; rfl) (by rw [info145]; rfl) rfl rfl ?_
   repeat (refine nst ?_)
   exact rt1 []
 · simp [he] at h1
theorem rawF_ok (l : List Int) (p : Nat) (hp : p ≤ l.length) (hl : l.length ≤ 1000000) (hw : WfB l) : Ct Tryz.prog 107 [.c (.ptr 1 0)] [curB l p, ptrB] (frE (rawF l p).1 (rawF l p).2.2) [curB l (rawF l p).2.1, ptrB] [] := by
 have ht := readTag_ok l p hp hl hw
 have hnl := readLen_ok l (tagP l p).2.1 (tagP_le l p hp).2 hl hw
 have hst : ¬ (tagP l p).2.2 = 0 → (tagP l p).2.1 = p := keepP_stay _ _ _
 generalize hRR : rawF l p = R
 unfold rawF at hRR
 generalize tagP l p = T at *
 generalize lenP l T.2.1 = N at *
 refine Ct_intro Tryz.func107 rfl rfl rfl rfl rfl (fun E hn hb => ?_)
 repeat (refine nst ?_)
 refine s_allocN rfl rfl rfl (by rw [hn]; rfl) rfl zok145 ?_
 repeat (refine nst ?_)
 refine s_call [0] ht rfl rfl (by rw [hn]; rfl) rfl rfl (by trivial) ⟨rfl, rfl, (by simp [ordL]), rfl⟩ ?_
 repeat (refine nst ?_)
 refine s_allocN rfl rfl rfl (by rw [hn]; rfl) rfl zok119 ?_
 repeat (refine nst ?_)
 refine s_storeN rfl rfl rfl rfl rfl (by exact vcs) rfl rfl rfl (by rw [cellsOf119]; rfl) (by rw [info119]; rfl) rfl rfl ?_
 repeat (refine nst ?_)
 refine W_cond rfl (by simp) (fun h1 => ?_) (fun h1 => ?_)
 · have h1' : ¬ T.2.2 = 0 := by simpa using h1
   rw [if_neg h1'] at hRR
   subst hRR
   rw [hst h1']
   repeat (refine nst ?_)
   refine s_storeN rfl rfl rfl rfl rfl (by exact vcs) rfl rfl rfl (by rw [cellsOf145]; rfl) (by rw [info145]; rfl) rfl rfl ?_
   repeat (refine nst ?_)
   exact rt1 []
 · have h1' : T.2.2 = 0 := by simpa using h1
   rw [if_pos h1'] at hRR
   subst hRR
   repeat (refine nst ?_)
   refine s_call [0] hnl rfl rfl (by rw [hn]; rfl) rfl rfl (by trivial) ⟨rfl, rfl, (by simp [ordL]), rfl⟩ ?_
   repeat (refine nst ?_)
   refine s_storeN rfl rfl rfl rfl rfl (by exact vcs) rfl rfl rfl (by rw [cellsOf145]; rfl) (by rw [info145]; rfl) rfl rfl ?_
   repeat (refine nst ?_)
   exact rt1 []
theorem read_ok (l : List Int) (p : Nat) (hp : p ≤ l.length) (hl : l.length ≤ 1000000) (hw : WfB l) : Ct Tryz.prog 88 [.c (.ptr 0 0)] [curB l p] (frE (readP l p).1 (readP l p).2.2) [curB l (readP l p).2.1] [] := by
 have hr := rawF_ok l p hp hl hw
 have hle := rawF_le l p hp
 generalize hRR : readP l p = R
 unfold readP at hRR
 by_cases he : (rawF l p).2.2 = 0
 · rw [keepP_ok _ _ _ he] at hRR
   rw [hRR] at hr he hle
   rw [he] at hr ⊢
   have hk := keptF_ok 107 l p R.2.1 R.1 hr
   refine Ct_intro Tryz.func88 rfl rfl rfl rfl rfl (fun E hn hb => ?_)
   repeat (refine nst ?_)
   refine s_boxN rfl rfl rfl (by rw [hn]; rfl) rfl (by exact vcs) rfl rfl ?_
   repeat (refine nst ?_)
   refine s_allocN rfl rfl rfl (by rw [hn]; rfl) rfl zok145 ?_
   repeat (refine nst ?_)
   refine s_call [0, 65] hk rfl rfl (by rw [hn]; rfl) rfl rfl (by trivial) ⟨rfl, ⟨rfl, rfl⟩, (by simp [ordL]), rfl⟩ ?_
   repeat (refine nst ?_)
   refine s_storeN rfl rfl rfl rfl rfl (by exact vcs) rfl rfl rfl (by rw [cellsOf145]; rfl) (by rw [info145]; rfl) rfl rfl ?_
   repeat (refine nst ?_)
   exact rt1 []
 · rw [keepP_err _ _ _ he] at hRR
   subst hRR
   generalize rawF l p = R at *
   have hk := keptF_err 107 l p R.2.1 R.1 R.2.2 he hle.1 (by omega) hr
   refine Ct_intro Tryz.func88 rfl rfl rfl rfl rfl (fun E hn hb => ?_)
   repeat (refine nst ?_)
   refine s_boxN rfl rfl rfl (by rw [hn]; rfl) rfl (by exact vcs) rfl rfl ?_
   repeat (refine nst ?_)
   refine s_allocN rfl rfl rfl (by rw [hn]; rfl) rfl zok145 ?_
   repeat (refine nst ?_)
   refine s_call [0, 65] hk rfl rfl (by rw [hn]; rfl) rfl rfl (by trivial) ⟨rfl, ⟨rfl, rfl⟩, (by simp [ordL]), rfl⟩ ?_
   repeat (refine nst ?_)
   refine s_storeN rfl rfl rfl rfl rfl (by exact vcs) rfl rfl rfl (by rw [cellsOf145]; rfl) (by rw [info145]; rfl) rfl rfl ?_
   repeat (refine nst ?_)
   exact rt1 []
abbrev tagB (t : TagP) : Blk := .cells [.lf (.v (.int .i64 t.1)), .lf (.v (.int .i64 t.2.1)), .lf (.v (.bool t.2.2))]
theorem keptC_ok (g : FuncId) (l x : List Int) (p q : Nat) (t : TagP) (hg : Ct Tryz.prog g [.c (.ptr 1 0), .c (.ptr 2 0)] [curB l p, ptrB, tagB t] (.tup [.c (.ptr 3 0), lv (.int .i64 0)]) [curB l q, ptrB, tagB t] [curB x 0]) :
   Ct Tryz.prog 86 [.c (.ptr 0 0), .c (.fn (.func g) [] [.ptr 1 0, .ptr 2 0])] [curB l p, ptrB, tagB t] (.tup [.c (.ptr 3 0), lv (.int .i64 0)]) [curB l q, ptrB, tagB t] [curB x 0] := by
 refine Ct_intro Tryz.func86 rfl rfl rfl rfl rfl (fun E hn hb => ?_)
 repeat (refine nst ?_)
 refine WL_q (opq_of (opy_callL (at_ok l p) rfl rfl rfl (by exact vcs) ⟨.inr (.inr ⟨0, 0, _, _, rfl, rfl, rfl, rfl⟩), trivial⟩ rfl) rfl) (by rw [hn]; rfl) ?_
 repeat (refine nst ?_)
 refine s_call [0, 1, 2] hg rfl rfl (by rw [hn]; rfl) rfl rfl (by trivial) ⟨rfl, ⟨rfl, rfl, rfl⟩, by simp [ordL], rfl⟩ ?_
 repeat (refine nst ?_)
 refine W_cond rfl (by simp) (fun h1 => ?_) (fun h1 => ?_)
 · simp at h1
 repeat (refine nst ?_)
 refine N_retN [78] rfl (by trivial) ⟨rfl, ⟨rfl, rfl, rfl⟩, rfl, rfl⟩ hb rfl (by simp [ordL])
theorem keptC_err (g : FuncId) (l : List Int) (p q : Nat) (t : TagP) (e : Int) (he : e ≠ 0) (hq : p ≤ q) (hl : q ≤ 1000000) (hg : Ct Tryz.prog g [.c (.ptr 1 0), .c (.ptr 2 0)] [curB l p, ptrB, tagB t] (.tup [.c (.lf (.v (.pointer none))), lv (.int .i64 e)]) [curB l q, ptrB, tagB t] []) :
   Ct Tryz.prog 86 [.c (.ptr 0 0), .c (.fn (.func g) [] [.ptr 1 0, .ptr 2 0])] [curB l p, ptrB, tagB t] (.tup [.c (.lf (.v (.pointer none))), lv (.int .i64 e)]) [curB l p, ptrB, tagB t] [] := by
 have hbk := back_ok l q p hq hl
 refine Ct_intro Tryz.func86 rfl rfl rfl rfl rfl (fun E hn hb => ?_)
 repeat (refine nst ?_)
 refine WL_q (opq_of (opy_callL (at_ok l p) rfl rfl rfl (by exact vcs) ⟨.inr (.inr ⟨0, 0, _, _, rfl, rfl, rfl, rfl⟩), trivial⟩ rfl) rfl) (by rw [hn]; rfl) ?_
 repeat (refine nst ?_)
 refine s_call [0, 1, 2] hg rfl rfl (by rw [hn]; rfl) rfl rfl (by trivial) ⟨rfl, ⟨rfl, rfl, rfl⟩, by simp [ordL], rfl⟩ ?_
 repeat (refine nst ?_)
 refine W_cond rfl (by simp) (fun h1 => ?_) (fun h1 => ?_)
 · repeat (refine nst ?_)
   refine s_call [0] hbk rfl rfl (by rw [hn]; rfl) rfl rfl (by trivial) ⟨rfl, rfl, (by simp [ordL]), rfl⟩ ?_
   repeat (refine nst ?_)
   refine N_retN [] rfl (by trivial) ⟨rfl, ⟨rfl, rfl, rfl⟩, trivial, rfl⟩ hb rfl (by simp [ordL])
 · simp [he] at h1
abbrev tagC (t : TagP) : List Cell := [.lf (.v (.int .i64 t.1)), .lf (.v (.int .i64 t.2.1)), .lf (.v (.bool t.2.2))]
theorem fieldsT119 : Tryz.prog.fieldsOf 119 = #[{ name := "Class", type := 3, offset := 0, embedded := false, tag := "", pkgPath := "", byteOffset := 0 }, { name := "Number", type := 3, offset := 1, embedded := false, tag := "", pkgPath := "", byteOffset := 8 }, { name := "Made", type := 4, offset := 2, embedded := false, tag := "", pkgPath := "", byteOffset := 16 }] := by
 rw [Program.fieldsOf, Tryz.underlying119]
theorem guardT119 : Tryz.prog.eqGuardType Tryz.prog.depth 119 = false := by kernel_rfl
theorem heldT119 : Tryz.prog.stoodInHeld 119 = false := by kernel_rfl
theorem structT119 : Tryz.prog.underlying 119 = some (.struct (Tryz.prog.fieldsOf 119)) := by rw [fieldsT119, Tryz.underlying119]
theorem eqokT119 (t u : TagP) : eqOk Tryz.prog (Tryz.prog.fieldsOf 119).toList 0 (tagC t) (tagC u) := by
 rw [fieldsT119]
 exact ⟨⟨by decide, rfl, rfl, cellsOf3, _, Tryz.underlying3⟩, ⟨by decide, rfl, rfl, cellsOf3, _, Tryz.underlying3⟩, ⟨by decide, rfl, cellsOf4, Tryz.underlying4⟩, trivial⟩
theorem eqT (t u : TagP) : eqCs (tagC t) (tagC u) = decide (t = u) := by
 obtain ⟨a, b, c⟩ := t
 obtain ⟨d, e, f⟩ := u
 simp only [eqCs, Prod.mk.injEq]
 by_cases h1 : a = d <;> by_cases h2 : b = e <;> by_cases h3 : c = f <;> simp [h1, h2, h3]
theorem rawO_ok (l : List Int) (p : Nat) (t : TagP) (hp : p ≤ l.length) (hl : l.length ≤ 1000000) (hw : WfB l) (he : (rawO l p t).2.2 = 0) : Ct Tryz.prog 87 [.c (.ptr 1 0), .c (.ptr 2 0)] [curB l p, ptrB, tagB t] (.tup [.c (.ptr 3 0), lv (.int .i64 0)]) [curB l (rawO l p t).2.1, ptrB, tagB t] [curB (rawO l p t).1 0] := by
 have hr := read_ok l p hp hl hw
 have hle := readP_le l p hp
 have hpos := readP_pos l p hw
 generalize hRR : rawO l p t = R at *
 unfold rawO at hRR
 generalize readP l p = F at *
 have he1 : F.2.2 = 0 := by
   by_cases h : F.2.2 = 0
   · exact h
   · rw [if_neg h] at hRR; subst hRR; exact he
 rw [if_pos he1] at hRR
 have he2 : F.1.1 = t := by
   by_cases h : F.1.1 = t
   · exact h
   · rw [if_neg h] at hRR; subst hRR; simp at he
 rw [if_pos he2] at hRR
 have he3 : ¬ ((l.length : Int) - (F.2.1 : Int)) < F.1.2 := by
   intro h
   rw [if_pos h] at hRR; subst hRR; simp at he
 rw [if_neg he3] at hRR
 subst hRR
 obtain ⟨n, hn'⟩ : ∃ n : Nat, F.1.2 = (n : Int) := ⟨F.1.2.toNat, by omega⟩
 have hs := sub_ok l F.2.1 n (by omega) hl
 rw [hn', Int.toNat_natCast]
 rw [he1] at hr
 refine Ct_intro Tryz.func87 rfl rfl rfl rfl rfl (fun E hn hb => ?_)
 repeat (refine nst ?_)
 refine s_call [0] hr rfl rfl (by rw [hn]; rfl) rfl rfl (by trivial) ⟨rfl, rfl, (by simp [ordL]), rfl⟩ ?_
 repeat (refine nst ?_)
 refine s_allocN rfl rfl rfl (by rw [hn]; rfl) rfl zok145 ?_
 repeat (refine nst ?_)
 refine s_storeN rfl rfl rfl rfl rfl (by exact vcs) rfl rfl rfl (by rw [cellsOf145]; rfl) (by rw [info145]; rfl) rfl rfl ?_
 repeat (refine nst ?_)
 refine W_cond rfl (by simp) (fun h1 => ?_) (fun h1 => ?_)
 · simp at h1
 repeat (refine nst ?_)
 refine WL_q (opq_of (opy_eqS (neg := true) (l := tagC F.1.1) (m := tagC t) rfl structT119 heldT119 (by first | rfl | (rw [cellsOf119]; rfl)) (by first | rfl | (rw [cellsOf119]; rfl)) (by trivial) guardT119 (eqokT119 _ _)) rfl) (by rw [hn]; rfl) ?_
 rw [eqT, decide_eq_true he2]
 repeat (refine nst ?_)
 refine W_cond rfl (by simp) (fun h2 => ?_) (fun h2 => ?_)
 · simp at h2
 repeat (refine nst ?_)
 rw [hn']
 refine s_call [0] hs rfl rfl (by rw [hn]; rfl) rfl rfl (by trivial) ⟨rfl, rfl, (by simp [ordL]), rfl⟩ ?_
 repeat (refine nst ?_)
 refine N_retN [85] rfl (by trivial) ⟨rfl, ⟨rfl, rfl, rfl⟩, rfl, rfl⟩ hb rfl (by simp [ordL])
theorem rawO_err (l : List Int) (p : Nat) (t : TagP) (hp : p ≤ l.length) (hl : l.length ≤ 1000000) (hw : WfB l) (he : ¬ (rawO l p t).2.2 = 0) : Ct Tryz.prog 87 [.c (.ptr 1 0), .c (.ptr 2 0)] [curB l p, ptrB, tagB t] (.tup [.c (.lf (.v (.pointer none))), lv (.int .i64 (rawO l p t).2.2)]) [curB l (rawO l p t).2.1, ptrB, tagB t] [] := by
 have hr := read_ok l p hp hl hw
 have hle := readP_le l p hp
 have hpos := readP_pos l p hw
 have hst : ¬ (readP l p).2.2 = 0 → (readP l p).2.1 = p := keepP_stay _ _ _
 generalize hRR : rawO l p t = R at *
 unfold rawO at hRR
 generalize readP l p = F at *
 refine Ct_intro Tryz.func87 rfl rfl rfl rfl rfl (fun E hn hb => ?_)
 repeat (refine nst ?_)
 refine s_call [0] hr rfl rfl (by rw [hn]; rfl) rfl rfl (by trivial) ⟨rfl, rfl, (by simp [ordL]), rfl⟩ ?_
 repeat (refine nst ?_)
 refine s_allocN rfl rfl rfl (by rw [hn]; rfl) rfl zok145 ?_
 repeat (refine nst ?_)
 refine s_storeN rfl rfl rfl rfl rfl (by exact vcs) rfl rfl rfl (by rw [cellsOf145]; rfl) (by rw [info145]; rfl) rfl rfl ?_
 repeat (refine nst ?_)
 refine W_cond rfl (by simp) (fun h1 => ?_) (fun h1 => ?_)
 · have he1 : ¬ F.2.2 = 0 := by simpa using h1
   rw [if_neg he1] at hRR
   subst hRR
   rw [hst he1]
   repeat (refine nst ?_)
   refine N_retN [] rfl (by trivial) ⟨rfl, ⟨rfl, rfl, rfl⟩, trivial, rfl⟩ hb rfl (by simp [ordL])
 · have he1 : F.2.2 = 0 := by simpa using h1
   rw [if_pos he1] at hRR
   repeat (refine nst ?_)
   refine WL_q (opq_of (opy_eqS (neg := true) (l := tagC F.1.1) (m := tagC t) rfl structT119 heldT119 (by first | rfl | (rw [cellsOf119]; rfl)) (by first | rfl | (rw [cellsOf119]; rfl)) (by trivial) guardT119 (eqokT119 _ _)) rfl) (by rw [hn]; rfl) ?_
   rw [eqT]
   repeat (refine nst ?_)
   refine W_cond rfl (by simp) (fun h2 => ?_) (fun h2 => ?_)
   · have he2 : ¬ F.1.1 = t := by simpa using h2
     rw [if_neg he2] at hRR
     subst hRR
     repeat (refine nst ?_)
     refine N_retN [] rfl (by trivial) ⟨rfl, ⟨rfl, rfl, rfl⟩, trivial, rfl⟩ hb rfl (by simp [ordL])
   · have he2 : F.1.1 = t := by simpa using h2
     rw [if_pos he2] at hRR
     have he3 : ((l.length : Int) - (F.2.1 : Int)) < F.1.2 := by
       by_cases h : ((l.length : Int) - (F.2.1 : Int)) < F.1.2
       · exact h
       · rw [if_neg h] at hRR; subst hRR; simp at he
     rw [if_pos he3] at hRR
     subst hRR
     have hs := sub_err l F.2.1 F.1.2 hpos.1 hle.2 he3 hl
     repeat (refine nst ?_)
     refine s_call [0] hs rfl rfl (by rw [hn]; rfl) rfl rfl (by trivial) ⟨rfl, rfl, (by simp [ordL]), rfl⟩ ?_
     repeat (refine nst ?_)
     refine N_retN [] rfl (by trivial) ⟨rfl, ⟨rfl, rfl, rfl⟩, trivial, rfl⟩ hb rfl (by simp [ordL])
theorem open_ok (l : List Int) (p : Nat) (t : TagP) (hp : p ≤ l.length) (hl : l.length ≤ 1000000) (hw : WfB l) (he : (openP l p t).2.2 = 0) : Ct Tryz.prog 64 [.c (.ptr 0 0), tagA t] [curB l p] (.tup [.c (.ptr 1 0), lv (.int .i64 0)]) [curB l (openP l p t).2.1] [curB (openP l p t).1 0] := by
 have he1 : (rawO l p t).2.2 = 0 := by
   by_cases h : (rawO l p t).2.2 = 0
   · exact h
   · unfold openP at he; rw [keepP_err _ _ _ h] at he; exact absurd he h
 have hr := rawO_ok l p t hp hl hw he1
 have e : openP l p t = rawO l p t := keepP_ok _ _ _ he1
 rw [e]
 have hk := keptC_ok 87 l (rawO l p t).1 p (rawO l p t).2.1 t hr
 generalize rawO l p t = R at *
 refine Ct_intro Tryz.func64 rfl rfl rfl rfl rfl (fun E hn hb => ?_)
 repeat (refine nst ?_)
 refine s_boxN rfl rfl rfl (by rw [hn]; rfl) rfl (by exact vcs) rfl rfl ?_
 repeat (refine nst ?_)
 refine s_boxN rfl rfl rfl (by rw [hn]; rfl) rfl (by exact vcs) rfl rfl ?_
 repeat (refine nst ?_)
 refine s_call [0, 66, 67] hk rfl rfl (by rw [hn]; rfl) rfl rfl (by trivial) ⟨rfl, ⟨rfl, rfl, rfl⟩, by simp [ordL], rfl⟩ ?_
 repeat (refine nst ?_)
 exact rt1 [72]
theorem open_err (l : List Int) (p : Nat) (t : TagP) (hp : p ≤ l.length) (hl : l.length ≤ 1000000) (hw : WfB l) (he : ¬ (openP l p t).2.2 = 0) : Ct Tryz.prog 64 [.c (.ptr 0 0), tagA t] [curB l p] (.tup [.c (.lf (.v (.pointer none))), lv (.int .i64 (openP l p t).2.2)]) [curB l p] [] := by
 have he1 : ¬ (rawO l p t).2.2 = 0 := by
   intro h
   unfold openP at he; rw [keepP_ok _ _ _ h] at he; exact he h
 have hr := rawO_err l p t hp hl hw he1
 have hle := rawO_le l p t hp
 have e : openP l p t = ([], p, (rawO l p t).2.2) := keepP_err _ _ _ he1
 rw [e]
 have hk := keptC_err 87 l p (rawO l p t).2.1 t (rawO l p t).2.2 he1 hle.1 (by omega) hr
 generalize rawO l p t = R at *
 refine Ct_intro Tryz.func64 rfl rfl rfl rfl rfl (fun E hn hb => ?_)
 repeat (refine nst ?_)
 refine s_boxN rfl rfl rfl (by rw [hn]; rfl) rfl (by exact vcs) rfl rfl ?_
 repeat (refine nst ?_)
 refine s_boxN rfl rfl rfl (by rw [hn]; rfl) rfl (by exact vcs) rfl rfl ?_
 repeat (refine nst ?_)
 refine s_call [0, 66, 67] hk rfl rfl (by rw [hn]; rfl) rfl rfl (by trivial) ⟨rfl, ⟨rfl, rfl, rfl⟩, by simp [ordL], rfl⟩ ?_
 repeat (refine nst ?_)
 exact rt1 []
end Go.Proofs.YtohfhephkjihfaaGreat

/-
  Chapter 02: what stands ahead of contents, and contents. The conditions: rows of at most a million bytes.
-/
import Derived.Test.YtaagjnlkinojcaaGreatC5
namespace Go.Proofs.YtaagjnlkinojcaaGreat
set_option linter.unusedSimpArgs false
set_option linter.unusedVariables false
open Go.Sx
set_option maxRecDepth 10000
abbrev frA (f : z0m × Int) : Av := .agg [.lf (.v (.int .i64 f.1.1)), .lf (.v (.int .i64 f.1.2.1)), .lf (.v (.bool f.1.2.2)), .lf (.v (.int .i64 f.2))]
abbrev frE (f : z0m × Int) (e : Int) : Av := .tup [frA f, lv (.int .i64 e)]
theorem z61 {α : Type} (z : α) (p : Nat) (r : α × Nat × Int) (h : ¬ (z0C z p r).2.2 = 0) : (z0C z p r).2.1 = p := by
 unfold z0C at h ⊢
 split
 · rename_i h2
   rw [if_pos h2] at h
   exact absurd h2 h
 · rfl
theorem zfD (g : FuncId) (l : List Int) (p q : Nat) (t : z0m × Int) (hg : Ct Tryz.prog g [.c (.ptr 1 0)] [z04 l p, z0W] (frE t 0) [z04 l q, z0W] []) :
   Ct Tryz.prog 173 [.c (.ptr 0 0), .c (.fn (.func g) [] [.ptr 1 0])] [z04 l p, z0W] (frE t 0) [z04 l q, z0W] [] := by
 refine z00 Tryz.func173 rfl rfl rfl rfl rfl (fun E hn hb => ?_)
 repeat (refine nst ?_)
 refine z0u rfl rfl rfl (by rw [hn]; rfl) rfl z3m ?_
 repeat (refine nst ?_)
 refine z0K (z0x (z15 (z1q l p) rfl rfl rfl (by exact vcs) ⟨.inr (.inr ⟨0, 0, _, _, rfl, rfl, rfl, rfl⟩), trivial⟩ rfl) rfl) (by rw [hn]; rfl) ?_
 repeat (refine nst ?_)
 refine z0n [0, 1] hg rfl rfl (by rw [hn]; rfl) rfl rfl (by trivial) ⟨rfl, ⟨rfl, rfl⟩, (by simp [z0i]), rfl⟩ ?_
 repeat (refine nst ?_)
 refine z0u rfl rfl rfl (by rw [hn]; rfl) rfl z3m ?_
 repeat (refine nst ?_)
 refine z0f rfl rfl rfl rfl rfl (by exact vcs) rfl rfl rfl (by rw [z1C]; rfl) (by rw [z2r]; rfl) rfl rfl ?_
 repeat (refine nst ?_)
 refine z05 rfl (by simp) (fun h1 => ?_) (fun h1 => ?_)
 · simp at h1
 repeat (refine nst ?_)
 refine z0f rfl rfl rfl rfl rfl (by exact vcs) rfl rfl rfl (by rw [z1C]; rfl) (by rw [z2r]; rfl) rfl rfl ?_
 repeat (refine nst ?_)
 exact rt1 []
theorem ze4 (g : FuncId) (l : List Int) (p q : Nat) (t : z0m × Int) (e : Int) (he : e ≠ 0) (hq : p ≤ q) (hl : q ≤ 1000000) (hg : Ct Tryz.prog g [.c (.ptr 1 0)] [z04 l p, z0W] (frE t e) [z04 l q, z0W] []) :
   Ct Tryz.prog 173 [.c (.ptr 0 0), .c (.fn (.func g) [] [.ptr 1 0])] [z04 l p, z0W] (frE (z5B, 0) e) [z04 l p, z0W] [] := by
 have hbk := z1x l q p hq hl
 refine z00 Tryz.func173 rfl rfl rfl rfl rfl (fun E hn hb => ?_)
 repeat (refine nst ?_)
 refine z0u rfl rfl rfl (by rw [hn]; rfl) rfl z3m ?_
 repeat (refine nst ?_)
 refine z0K (z0x (z15 (z1q l p) rfl rfl rfl (by exact vcs) ⟨.inr (.inr ⟨0, 0, _, _, rfl, rfl, rfl, rfl⟩), trivial⟩ rfl) rfl) (by rw [hn]; rfl) ?_
 repeat (refine nst ?_)
 refine z0n [0, 1] hg rfl rfl (by rw [hn]; rfl) rfl rfl (by trivial) ⟨rfl, ⟨rfl, rfl⟩, (by simp [z0i]), rfl⟩ ?_
 repeat (refine nst ?_)
 refine z0u rfl rfl rfl (by rw [hn]; rfl) rfl z3m ?_
 repeat (refine nst ?_)
 refine z0f rfl rfl rfl rfl rfl (by exact vcs) rfl rfl rfl (by rw [z1C]; rfl) (by rw [z2r]; rfl) rfl rfl ?_
 repeat (refine nst ?_)
 refine z05 rfl (by simp) (fun h1 => ?_) (fun h1 => ?_)
 · repeat (refine nst ?_)
   refine z0u rfl rfl rfl (by rw [hn]; rfl) rfl z3m ?_
   repeat (refine nst ?_)
   refine z0n [0] hbk rfl rfl (by rw [hn]; rfl) rfl rfl (by trivial) ⟨rfl, rfl, (by simp [z0i]), rfl⟩ ?_
   repeat (refine nst ?_)
   refine z0f rfl rfl rfl rfl rfl (by exact vcs) rfl rfl rfl (by rw [z1C]; rfl) (by rw [z2r]; rfl) rfl rfl ?_
   repeat (refine nst ?_)
   exact rt1 []
 · simp [he] at h1
theorem zhl (l : List Int) (p : Nat) (hp : p ≤ l.length) (hl : l.length ≤ 1000000) (hw : WfB l) : Ct Tryz.prog 174 [.c (.ptr 1 0)] [z04 l p, z0W] (frE (z2X l p).1 (z2X l p).2.2) [z04 l (z2X l p).2.1, z0W] [] := by
 have ht := zdI l p hp hl hw
 have hnl := zdE l (z0O l p).2.1 (z7A l p hp).2 hl hw
 have hst : ¬ (z0O l p).2.2 = 0 → (z0O l p).2.1 = p := z61 _ _ _
 generalize hRR : z2X l p = R
 unfold z2X at hRR
 generalize z0O l p = T at *
 generalize lenP l T.2.1 = N at *
 refine z00 Tryz.func174 rfl rfl rfl rfl rfl (fun E hn hb => ?_)
 repeat (refine nst ?_)
 refine z0u rfl rfl rfl (by rw [hn]; rfl) rfl z3m ?_
 repeat (refine nst ?_)
 refine z0n [0] ht rfl rfl (by rw [hn]; rfl) rfl rfl (by trivial) ⟨rfl, rfl, (by simp [z0i]), rfl⟩ ?_
 repeat (refine nst ?_)
 refine z0u rfl rfl rfl (by rw [hn]; rfl) rfl z32 ?_
 repeat (refine nst ?_)
 refine z0f rfl rfl rfl rfl rfl (by exact vcs) rfl rfl rfl (by rw [z0M]; rfl) (by rw [z1Y]; rfl) rfl rfl ?_
 repeat (refine nst ?_)
 refine z05 rfl (by simp) (fun h1 => ?_) (fun h1 => ?_)
 · have h1' : ¬ T.2.2 = 0 := by simpa using h1
   rw [if_neg h1'] at hRR
   subst hRR
   rw [hst h1']
   repeat (refine nst ?_)
   refine z0f rfl rfl rfl rfl rfl (by exact vcs) rfl rfl rfl (by rw [z1C]; rfl) (by rw [z2r]; rfl) rfl rfl ?_
   repeat (refine nst ?_)
   exact rt1 []
 · have h1' : T.2.2 = 0 := by simpa using h1
   rw [if_pos h1'] at hRR
   subst hRR
   repeat (refine nst ?_)
   refine z0n [0] hnl rfl rfl (by rw [hn]; rfl) rfl rfl (by trivial) ⟨rfl, rfl, (by simp [z0i]), rfl⟩ ?_
   repeat (refine nst ?_)
   refine z0f rfl rfl rfl rfl rfl (by exact vcs) rfl rfl rfl (by rw [z1C]; rfl) (by rw [z2r]; rfl) rfl rfl ?_
   repeat (refine nst ?_)
   exact rt1 []
theorem z7l (l : List Int) (p : Nat) (hp : p ≤ l.length) (hl : l.length ≤ 1000000) (hw : WfB l) : Ct Tryz.prog 129 [.c (.ptr 0 0)] [z04 l p] (frE (z09 l p).1 (z09 l p).2.2) [z04 l (z09 l p).2.1] [] := by
 have hr := zhl l p hp hl hw
 have hle := zcx l p hp
 generalize hRR : z09 l p = R
 unfold z09 at hRR
 by_cases he : (z2X l p).2.2 = 0
 · rw [z2z _ _ _ he] at hRR
   rw [hRR] at hr he hle
   rw [he] at hr ⊢
   have hk := zfD 174 l p R.2.1 R.1 hr
   refine z00 Tryz.func129 rfl rfl rfl rfl rfl (fun E hn hb => ?_)
   repeat (refine nst ?_)
   refine z16 rfl rfl rfl (by rw [hn]; rfl) rfl (by exact vcs) rfl rfl ?_
   repeat (refine nst ?_)
   refine z0u rfl rfl rfl (by rw [hn]; rfl) rfl z3m ?_
   repeat (refine nst ?_)
   refine z0n [0, 65] hk rfl rfl (by rw [hn]; rfl) rfl rfl (by trivial) ⟨rfl, ⟨rfl, rfl⟩, (by simp [z0i]), rfl⟩ ?_
   repeat (refine nst ?_)
   refine z0f rfl rfl rfl rfl rfl (by exact vcs) rfl rfl rfl (by rw [z1C]; rfl) (by rw [z2r]; rfl) rfl rfl ?_
   repeat (refine nst ?_)
   exact rt1 []
 · rw [z1e _ _ _ he] at hRR
   subst hRR
   generalize z2X l p = R at *
   have hk := ze4 174 l p R.2.1 R.1 R.2.2 he hle.1 (by omega) hr
   refine z00 Tryz.func129 rfl rfl rfl rfl rfl (fun E hn hb => ?_)
   repeat (refine nst ?_)
   refine z16 rfl rfl rfl (by rw [hn]; rfl) rfl (by exact vcs) rfl rfl ?_
   repeat (refine nst ?_)
   refine z0u rfl rfl rfl (by rw [hn]; rfl) rfl z3m ?_
   repeat (refine nst ?_)
   refine z0n [0, 65] hk rfl rfl (by rw [hn]; rfl) rfl rfl (by trivial) ⟨rfl, ⟨rfl, rfl⟩, (by simp [z0i]), rfl⟩ ?_
   repeat (refine nst ?_)
   refine z0f rfl rfl rfl rfl rfl (by exact vcs) rfl rfl rfl (by rw [z1C]; rfl) (by rw [z2r]; rfl) rfl rfl ?_
   repeat (refine nst ?_)
   exact rt1 []
abbrev z3b (t : z0m) : Blk := .cells [.lf (.v (.int .i64 t.1)), .lf (.v (.int .i64 t.2.1)), .lf (.v (.bool t.2.2))]
theorem zfE (g : FuncId) (l x : List Int) (p q : Nat) (t : z0m) (hg : Ct Tryz.prog g [.c (.ptr 1 0), .c (.ptr 2 0)] [z04 l p, z0W, z3b t] (.tup [.c (.ptr 3 0), lv (.int .i64 0)]) [z04 l q, z0W, z3b t] [z04 x 0]) :
   Ct Tryz.prog 127 [.c (.ptr 0 0), .c (.fn (.func g) [] [.ptr 1 0, .ptr 2 0])] [z04 l p, z0W, z3b t] (.tup [.c (.ptr 3 0), lv (.int .i64 0)]) [z04 l q, z0W, z3b t] [z04 x 0] := by
 refine z00 Tryz.func127 rfl rfl rfl rfl rfl (fun E hn hb => ?_)
 repeat (refine nst ?_)
 refine z0K (z0x (z15 (z1q l p) rfl rfl rfl (by exact vcs) ⟨.inr (.inr ⟨0, 0, _, _, rfl, rfl, rfl, rfl⟩), trivial⟩ rfl) rfl) (by rw [hn]; rfl) ?_
 repeat (refine nst ?_)
 refine z0n [0, 1, 2] hg rfl rfl (by rw [hn]; rfl) rfl rfl (by trivial) ⟨rfl, ⟨rfl, rfl, rfl⟩, by simp [z0i], rfl⟩ ?_
 repeat (refine nst ?_)
 refine z05 rfl (by simp) (fun h1 => ?_) (fun h1 => ?_)
 · simp at h1
 repeat (refine nst ?_)
 refine z4x [78] rfl (by trivial) ⟨rfl, ⟨rfl, rfl, rfl⟩, rfl, rfl⟩ hb rfl (by simp [z0i])
theorem ze5 (g : FuncId) (l : List Int) (p q : Nat) (t : z0m) (e : Int) (he : e ≠ 0) (hq : p ≤ q) (hl : q ≤ 1000000) (hg : Ct Tryz.prog g [.c (.ptr 1 0), .c (.ptr 2 0)] [z04 l p, z0W, z3b t] (.tup [.c (.lf (.v (.pointer none))), lv (.int .i64 e)]) [z04 l q, z0W, z3b t] []) :
   Ct Tryz.prog 127 [.c (.ptr 0 0), .c (.fn (.func g) [] [.ptr 1 0, .ptr 2 0])] [z04 l p, z0W, z3b t] (.tup [.c (.lf (.v (.pointer none))), lv (.int .i64 e)]) [z04 l p, z0W, z3b t] [] := by
 have hbk := z1x l q p hq hl
 refine z00 Tryz.func127 rfl rfl rfl rfl rfl (fun E hn hb => ?_)
 repeat (refine nst ?_)
 refine z0K (z0x (z15 (z1q l p) rfl rfl rfl (by exact vcs) ⟨.inr (.inr ⟨0, 0, _, _, rfl, rfl, rfl, rfl⟩), trivial⟩ rfl) rfl) (by rw [hn]; rfl) ?_
 repeat (refine nst ?_)
 refine z0n [0, 1, 2] hg rfl rfl (by rw [hn]; rfl) rfl rfl (by trivial) ⟨rfl, ⟨rfl, rfl, rfl⟩, by simp [z0i], rfl⟩ ?_
 repeat (refine nst ?_)
 refine z05 rfl (by simp) (fun h1 => ?_) (fun h1 => ?_)
 · repeat (refine nst ?_)
   refine z0n [0] hbk rfl rfl (by rw [hn]; rfl) rfl rfl (by trivial) ⟨rfl, rfl, (by simp [z0i]), rfl⟩ ?_
   repeat (refine nst ?_)
   refine z4x [] rfl (by trivial) ⟨rfl, ⟨rfl, rfl, rfl⟩, trivial, rfl⟩ hb rfl (by simp [z0i])
 · simp [he] at h1
abbrev z0A (t : z0m) : List Cell := [.lf (.v (.int .i64 t.1)), .lf (.v (.int .i64 t.2.1)), .lf (.v (.bool t.2.2))]
theorem z8p : Tryz.prog.fieldsOf 129 = #[{ name := "Class", type := 3, offset := 0, embedded := false, tag := "", pkgPath := "", byteOffset := 0 }, { name := "Number", type := 3, offset := 1, embedded := false, tag := "", pkgPath := "", byteOffset := 8 }, { name := "Made", type := 4, offset := 2, embedded := false, tag := "", pkgPath := "", byteOffset := 16 }] := by
 rw [Program.fieldsOf, Tryz.underlying129]
theorem z9x : Tryz.prog.eqGuardType Tryz.prog.depth 129 = false := by kernel_rfl
theorem zaP : Tryz.prog.stoodInHeld 129 = false := by kernel_rfl
theorem z8q : Tryz.prog.underlying 129 = some (.struct (Tryz.prog.fieldsOf 129)) := by rw [z8p, Tryz.underlying129]
theorem zaQ (t u : z0m) : z82 Tryz.prog (Tryz.prog.fieldsOf 129).toList 0 (z0A t) (z0A u) := by
 rw [z8p]
 exact ⟨⟨by decide, rfl, rfl, z22, _, Tryz.underlying3⟩, ⟨by decide, rfl, rfl, z22, _, Tryz.underlying3⟩, ⟨by decide, rfl, zbB, Tryz.underlying4⟩, trivial⟩
theorem z8r : Tryz.prog.fieldsOf 101 = #[{ name := "Class", type := 3, offset := 0, embedded := false, tag := "", pkgPath := "", byteOffset := 0 }, { name := "Number", type := 3, offset := 1, embedded := false, tag := "", pkgPath := "", byteOffset := 8 }, { name := "Made", type := 4, offset := 2, embedded := false, tag := "", pkgPath := "", byteOffset := 16 }] := by
 rw [Program.fieldsOf, Tryz.underlying101]
theorem ze6 : Tryz.prog.eqGuardType Tryz.prog.depth 101 = false := by kernel_rfl
theorem zfF : Tryz.prog.stoodInHeld 101 = false := by kernel_rfl
theorem zd9 : Tryz.prog.underlying 101 = some (.struct (Tryz.prog.fieldsOf 101)) := by rw [z8r, Tryz.underlying101]
theorem zfG (t u : z0m) : z82 Tryz.prog (Tryz.prog.fieldsOf 101).toList 0 (z0A t) (z0A u) := by
 rw [z8r]
 exact ⟨⟨by decide, rfl, rfl, z22, _, Tryz.underlying3⟩, ⟨by decide, rfl, rfl, z22, _, Tryz.underlying3⟩, ⟨by decide, rfl, zbB, Tryz.underlying4⟩, trivial⟩
theorem eqT (t u : z0m) : z0U (z0A t) (z0A u) = decide (t = u) := by
 obtain ⟨a, b, c⟩ := t
 obtain ⟨d, e, f⟩ := u
 simp only [z0U, Prod.mk.injEq]
 by_cases h1 : a = d <;> by_cases h2 : b = e <;> by_cases h3 : c = f <;> simp [h1, h2, h3]
theorem zhm (l : List Int) (p : Nat) (t : z0m) (hp : p ≤ l.length) (hl : l.length ≤ 1000000) (hw : WfB l) (he : (z1I l p t).2.2 = 0) : Ct Tryz.prog 128 [.c (.ptr 1 0), .c (.ptr 2 0)] [z04 l p, z0W, z3b t] (.tup [.c (.ptr 3 0), lv (.int .i64 0)]) [z04 l (z1I l p t).2.1, z0W, z3b t] [z04 (z1I l p t).1 0] := by
 have hr := z7l l p hp hl hw
 have hle := z13 l p hp
 have hpos := z1F l p hw
 generalize hRR : z1I l p t = R at *
 unfold z1I at hRR
 generalize z09 l p = F at *
 have he1 : F.2.2 = 0 := by
   by_cases h : F.2.2 = 0
   · exact h
   · rw [if_neg h] at hRR; subst hRR; exact he
 rw [if_pos he1] at hRR
 have he2 : F.1.1 = t := by
   by_cases h : F.1.1 = t
   · exact h
   · rw [if_neg h] at hRR; subst hRR; simp at he
 rw [if_pos he2] at hRR
 have he3 : ¬ ((l.length : Int) - (F.2.1 : Int)) < F.1.2 := by
   intro h
   rw [if_pos h] at hRR; subst hRR; simp at he
 rw [if_neg he3] at hRR
 subst hRR
 obtain ⟨n, hn'⟩ : ∃ n : Nat, F.1.2 = (n : Int) := ⟨F.1.2.toNat, by omega⟩
 have hs := znJ l F.2.1 n (by omega) hl
 rw [hn', Int.toNat_natCast]
 rw [he1] at hr
 refine z00 Tryz.func128 rfl rfl rfl rfl rfl (fun E hn hb => ?_)
 repeat (refine nst ?_)
 refine z0n [0] hr rfl rfl (by rw [hn]; rfl) rfl rfl (by trivial) ⟨rfl, rfl, (by simp [z0i]), rfl⟩ ?_
 repeat (refine nst ?_)
 refine z0u rfl rfl rfl (by rw [hn]; rfl) rfl z3m ?_
 repeat (refine nst ?_)
 refine z0f rfl rfl rfl rfl rfl (by exact vcs) rfl rfl rfl (by rw [z1C]; rfl) (by rw [z2r]; rfl) rfl rfl ?_
 repeat (refine nst ?_)
 refine z05 rfl (by simp) (fun h1 => ?_) (fun h1 => ?_)
 · simp at h1
 repeat (refine nst ?_)
 refine z0K (z0x (z7x (neg := true) (l := z0A F.1.1) (m := z0A t) rfl z8q zaP (by first | rfl | (rw [z0M]; rfl)) (by first | rfl | (rw [z0M]; rfl)) (by trivial) z9x (zaQ _ _)) rfl) (by rw [hn]; rfl) ?_
 rw [eqT, decide_eq_true he2]
 repeat (refine nst ?_)
 refine z05 rfl (by simp) (fun h2 => ?_) (fun h2 => ?_)
 · simp at h2
 repeat (refine nst ?_)
 rw [hn']
 refine z0n [0] hs rfl rfl (by rw [hn]; rfl) rfl rfl (by trivial) ⟨rfl, rfl, (by simp [z0i]), rfl⟩ ?_
 repeat (refine nst ?_)
 refine z4x [85] rfl (by trivial) ⟨rfl, ⟨rfl, rfl, rfl⟩, rfl, rfl⟩ hb rfl (by simp [z0i])
theorem zfH (l : List Int) (p : Nat) (t : z0m) (hp : p ≤ l.length) (hl : l.length ≤ 1000000) (hw : WfB l) (he : ¬ (z1I l p t).2.2 = 0) : Ct Tryz.prog 128 [.c (.ptr 1 0), .c (.ptr 2 0)] [z04 l p, z0W, z3b t] (.tup [.c (.lf (.v (.pointer none))), lv (.int .i64 (z1I l p t).2.2)]) [z04 l (z1I l p t).2.1, z0W, z3b t] [] := by
 have hr := z7l l p hp hl hw
 have hle := z13 l p hp
 have hpos := z1F l p hw
 have hst : ¬ (z09 l p).2.2 = 0 → (z09 l p).2.1 = p := z61 _ _ _
 generalize hRR : z1I l p t = R at *
 unfold z1I at hRR
 generalize z09 l p = F at *
 refine z00 Tryz.func128 rfl rfl rfl rfl rfl (fun E hn hb => ?_)
 repeat (refine nst ?_)
 refine z0n [0] hr rfl rfl (by rw [hn]; rfl) rfl rfl (by trivial) ⟨rfl, rfl, (by simp [z0i]), rfl⟩ ?_
 repeat (refine nst ?_)
 refine z0u rfl rfl rfl (by rw [hn]; rfl) rfl z3m ?_
 repeat (refine nst ?_)
 refine z0f rfl rfl rfl rfl rfl (by exact vcs) rfl rfl rfl (by rw [z1C]; rfl) (by rw [z2r]; rfl) rfl rfl ?_
 repeat (refine nst ?_)
 refine z05 rfl (by simp) (fun h1 => ?_) (fun h1 => ?_)
 · have he1 : ¬ F.2.2 = 0 := by simpa using h1
   rw [if_neg he1] at hRR
   subst hRR
   rw [hst he1]
   repeat (refine nst ?_)
   refine z4x [] rfl (by trivial) ⟨rfl, ⟨rfl, rfl, rfl⟩, trivial, rfl⟩ hb rfl (by simp [z0i])
 · have he1 : F.2.2 = 0 := by simpa using h1
   rw [if_pos he1] at hRR
   repeat (refine nst ?_)
   refine z0K (z0x (z7x (neg := true) (l := z0A F.1.1) (m := z0A t) rfl z8q zaP (by first | rfl | (rw [z0M]; rfl)) (by first | rfl | (rw [z0M]; rfl)) (by trivial) z9x (zaQ _ _)) rfl) (by rw [hn]; rfl) ?_
   rw [eqT]
   repeat (refine nst ?_)
   refine z05 rfl (by simp) (fun h2 => ?_) (fun h2 => ?_)
   · have he2 : ¬ F.1.1 = t := by simpa using h2
     rw [if_neg he2] at hRR
     subst hRR
     repeat (refine nst ?_)
     refine z4x [] rfl (by trivial) ⟨rfl, ⟨rfl, rfl, rfl⟩, trivial, rfl⟩ hb rfl (by simp [z0i])
   · have he2 : F.1.1 = t := by simpa using h2
     rw [if_pos he2] at hRR
     have he3 : ((l.length : Int) - (F.2.1 : Int)) < F.1.2 := by
       by_cases h : ((l.length : Int) - (F.2.1 : Int)) < F.1.2
       · exact h
       · rw [if_neg h] at hRR; subst hRR; simp at he
     rw [if_pos he3] at hRR
     subst hRR
     have hs := zlr l F.2.1 F.1.2 hpos.1 hle.2 he3 hl
     repeat (refine nst ?_)
     refine z0n [0] hs rfl rfl (by rw [hn]; rfl) rfl rfl (by trivial) ⟨rfl, rfl, (by simp [z0i]), rfl⟩ ?_
     repeat (refine nst ?_)
     refine z4x [] rfl (by trivial) ⟨rfl, ⟨rfl, rfl, rfl⟩, trivial, rfl⟩ hb rfl (by simp [z0i])
theorem z1V (l : List Int) (p : Nat) (t : z0m) (hp : p ≤ l.length) (hl : l.length ≤ 1000000) (hw : WfB l) (he : (z0g l p t).2.2 = 0) : Ct Tryz.prog 62 [.c (.ptr 0 0), z2A t] [z04 l p] (.tup [.c (.ptr 1 0), lv (.int .i64 0)]) [z04 l (z0g l p t).2.1] [z04 (z0g l p t).1 0] := by
 have he1 : (z1I l p t).2.2 = 0 := by
   by_cases h : (z1I l p t).2.2 = 0
   · exact h
   · unfold z0g at he; rw [z1e _ _ _ h] at he; exact absurd he h
 have hr := zhm l p t hp hl hw he1
 have e : z0g l p t = z1I l p t := z2z _ _ _ he1
 rw [e]
 have hk := zfE 128 l (z1I l p t).1 p (z1I l p t).2.1 t hr
 generalize z1I l p t = R at *
 refine z00 Tryz.func62 rfl rfl rfl rfl rfl (fun E hn hb => ?_)
 repeat (refine nst ?_)
 refine z16 rfl rfl rfl (by rw [hn]; rfl) rfl (by exact vcs) rfl rfl ?_
 repeat (refine nst ?_)
 refine z16 rfl rfl rfl (by rw [hn]; rfl) rfl (by exact vcs) rfl rfl ?_
 repeat (refine nst ?_)
 refine z0n [0, 66, 67] hk rfl rfl (by rw [hn]; rfl) rfl rfl (by trivial) ⟨rfl, ⟨rfl, rfl, rfl⟩, by simp [z0i], rfl⟩ ?_
 repeat (refine nst ?_)
 exact rt1 [72]
theorem z2x (l : List Int) (p : Nat) (t : z0m) (hp : p ≤ l.length) (hl : l.length ≤ 1000000) (hw : WfB l) (he : ¬ (z0g l p t).2.2 = 0) : Ct Tryz.prog 62 [.c (.ptr 0 0), z2A t] [z04 l p] (.tup [.c (.lf (.v (.pointer none))), lv (.int .i64 (z0g l p t).2.2)]) [z04 l p] [] := by
 have he1 : ¬ (z1I l p t).2.2 = 0 := by
   intro h
   unfold z0g at he; rw [z2z _ _ _ h] at he; exact he h
 have hr := zfH l p t hp hl hw he1
 have hle := zcy l p t hp
 have e : z0g l p t = ([], p, (z1I l p t).2.2) := z1e _ _ _ he1
 rw [e]
 have hk := ze5 128 l p (z1I l p t).2.1 t (z1I l p t).2.2 he1 hle.1 (by omega) hr
 generalize z1I l p t = R at *
 refine z00 Tryz.func62 rfl rfl rfl rfl rfl (fun E hn hb => ?_)
 repeat (refine nst ?_)
 refine z16 rfl rfl rfl (by rw [hn]; rfl) rfl (by exact vcs) rfl rfl ?_
 repeat (refine nst ?_)
 refine z16 rfl rfl rfl (by rw [hn]; rfl) rfl (by exact vcs) rfl rfl ?_
 repeat (refine nst ?_)
 refine z0n [0, 66, 67] hk rfl rfl (by rw [hn]; rfl) rfl rfl (by trivial) ⟨rfl, ⟨rfl, rfl, rfl⟩, by simp [z0i], rfl⟩ ?_
 repeat (refine nst ?_)
 exact rt1 []
end Go.Proofs.YtaagjnlkinojcaaGreat

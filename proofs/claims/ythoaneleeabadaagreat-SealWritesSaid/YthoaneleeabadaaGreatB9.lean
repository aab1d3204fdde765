/-
  Build: sheets: one frame, opened and shut. The conditions: rows that a machine can hold.
-/
import Derived.Test.YthoaneleeabadaaGreatA23
import Derived.Test.YthoaneleeabadaaGreatA18
import Derived.Test.YthoaneleeabadaaGreatA14
import Derived.Test.YthoaneleeabadaaGreatSxR
import Derived.Test.YthoaneleeabadaaGreatSxP
import Derived.Test.YthoaneleeabadaaGreatA24
import Derived.Test.YthoaneleeabadaaGreatB16
namespace Go.Proofs.YthoaneleeabadaaGreat
set_option linter.unusedSimpArgs false
set_option linter.unusedVariables false
open Go.Sx
set_option maxRecDepth 10000
abbrev sealA (t o m s : List Int) : Av := .agg [.lf (.ints .u8 t), .lf (.ints .i64 o), .lf (.ints .u8 m), .lf (.ints .u8 s)]
def texP (x : List Int) (p : Nat) : List Int × Int × Nat :=
 let r := readP x p
 if r.2.2 = 0 then (if (x.length : Int) - (r.2.1 : Int) < r.1.2 then ([], 3, r.2.1) else ((x.drop p).take (r.2.1 - p + r.1.2.toNat), 0, r.2.1 + r.1.2.toNat)) else ([], r.2.2, p)
def selP (x : List Int) (p : Nat) : List Int × Int × Nat :=
 let r := bitR x p
 if r.2.2.2 = 0 then (if r.1 = 0 then (r.2.1, 0, r.2.2.1) else ([], 6, r.2.2.1)) else ([], r.2.2.2, r.2.2.1)
abbrev Sld := List Int × List Int × List Int × List Int
def parZ (x : List Int) (p : Nat) : Sld × Int × Nat :=
 let t := texP x p
 if t.2.1 = 0 then
   (let a := algR x t.2.2
    if a.2.2.1 = 0 then (let s := selP x a.2.2.2; if s.2.1 = 0 then ((t.1, a.1, a.2.1, s.1), 0, s.2.2) else (([], [], [], []), s.2.1, s.2.2))
    else (([], [], [], []), a.2.2.1, a.2.2.2))
 else (([], [], [], []), t.2.1, t.2.2)
def partsZ (x : List Int) (p : Nat) : Sld × Int × Nat := let r := parZ x p; if r.2.1 = 0 then r else (([], [], [], []), r.2.1, p)
def readZ (l : List Int) (p : Nat) : Sld × Int × Nat :=
 let r := openP l p (ofT 16)
 if r.2.2 = 0 then (let a := parZ r.1 0; if a.2.1 = 0 then (if a.2.2 < r.1.length then (([], [], [], []), 7, p) else (a.1, 0, r.2.1)) else (([], [], [], []), a.2.1, p)) else (([], [], [], []), r.2.2, p)
def parseZ (b : List Int) : Sld × Int := let r := readZ b 0; if r.2.1 = 0 then (if r.2.2 < b.length then (([], [], [], []), 7) else (r.1, 0)) else (([], [], [], []), r.2.1)
theorem texP_le (x : List Int) (p : Nat) (hp : p ≤ x.length) (hw : WfB x) : (texP x p).2.2 ≤ x.length ∧ (texP x p).1.length ≤ x.length ∧ (∀ y ∈ (texP x p).1, y ∈ x) ∧ (¬ (texP x p).2.1 = 0 → (texP x p).1 = []) := by
 have h := readP_le x p hp
 have hpos := readP_pos x p hw
 unfold texP
 dsimp only
 split
 · split
   · exact ⟨h.2, by simp, (fun y hy => by cases hy), fun _ => rfl⟩
   · refine ⟨by dsimp only; omega, by simp; omega, fun y hy => List.mem_of_mem_drop (List.mem_of_mem_take hy), fun h => absurd rfl h⟩
 · exact ⟨hp, by simp, (fun y hy => by cases hy), fun _ => rfl⟩
theorem bitR_mem (l : List Int) (p : Nat) : ∀ y ∈ (bitR l p).2.1, y ∈ l := by
 have hm := openP_mem l p (ofT 3)
 unfold bitR
 dsimp only
 split
 · split
   · intro y hy
     refine hm.2 y ?_
     unfold parS at hy
     split at hy
     · cases hy
     · split at hy
       · rename_i e _; rw [e]; exact List.mem_cons_of_mem _ hy
       · cases hy
   · intro y hy; cases hy
 · intro y hy; cases hy
theorem selP_le (x : List Int) (p : Nat) (hp : p ≤ x.length) : (selP x p).2.2 ≤ x.length ∧ (selP x p).1.length ≤ x.length ∧ (∀ y ∈ (selP x p).1, y ∈ x) := by
 have h := bitR_le x p hp
 have h2 := bitR_len x p
 have h3 := bitR_mem x p
 unfold selP
 dsimp only
 split
 · split
   · exact ⟨h.2, h2, h3⟩
   · exact ⟨h.2, by simp, fun y hy => by cases hy⟩
 · exact ⟨h.2, by simp, fun y hy => by cases hy⟩
theorem parZ_le (x : List Int) (p : Nat) (hp : p ≤ x.length) (hw : WfB x) : (parZ x p).2.2 ≤ x.length := by
 have h1 := (texP_le x p hp hw).1
 have h2 := (algR_le x (texP x p).2.2 h1).2
 have h3 := (selP_le x _ h2).1
 unfold parZ
 dsimp only
 split
 · split
   · split
     · exact h3
     · exact h3
   · exact h2
 · exact h1
theorem texP_ge (x : List Int) (p : Nat) (hp : p ≤ x.length) : p ≤ (texP x p).2.2 := by
 have h := readP_le x p hp
 unfold texP
 dsimp only
 split
 · split
   · exact h.1
   · dsimp only; omega
 · exact Nat.le_refl _
theorem parZ_ge (x : List Int) (p : Nat) (hp : p ≤ x.length) (hw : WfB x) : p ≤ (parZ x p).2.2 := by
 have h0 := texP_ge x p hp
 have h1 := (texP_le x p hp hw).1
 have h2 := algR_le x (texP x p).2.2 h1
 have h3 := bitR_le x _ h2.2
 have h4 : (algR x (texP x p).2.2).2.2.2 ≤ (selP x (algR x (texP x p).2.2).2.2.2).2.2 := by
   unfold selP
   dsimp only
   split
   · split
     · exact h3.1
     · exact h3.1
   · exact h3.1
 unfold parZ
 dsimp only
 split
 · split
   · split
     · dsimp only; omega
     · dsimp only; omega
   · dsimp only; omega
 · exact h0
theorem parZ_err (x : List Int) (p : Nat) (h : ¬ (parZ x p).2.1 = 0) : (parZ x p).1 = ([], [], [], []) := by
 unfold parZ at h ⊢
 dsimp only at h ⊢
 split
 · rename_i h1
   rw [if_pos h1] at h
   split
   · rename_i h2
     rw [if_pos h2] at h
     split
     · rename_i h3
       rw [if_pos h3] at h
       exact absurd rfl h
     · rfl
   · rfl
 · rfl
theorem parZ_len (x : List Int) (p : Nat) (hp : p ≤ x.length) (hw : WfB x) : (parZ x p).1.1.length ≤ x.length ∧ (parZ x p).1.2.1.length ≤ 32 ∧ (parZ x p).1.2.2.1.length ≤ x.length ∧ (parZ x p).1.2.2.2.length ≤ x.length ∧
   (∀ y ∈ (parZ x p).1.1, y ∈ x) ∧ (∀ y ∈ (parZ x p).1.2.2.1, y ∈ x) ∧ (∀ y ∈ (parZ x p).1.2.2.2, y ∈ x) := by
 have h1 := texP_le x p hp hw
 have h2 := (algR_le x (texP x p).2.2 h1.1).2
 have h3 := selP_le x _ h2
 have h4 := algR_o x (texP x p).2.2 hw
 have h5 := algR_len x (texP x p).2.2
 unfold parZ
 dsimp only
 split
 · split
   · split
     · exact ⟨h1.2.1, h4, h5.1, h3.2.1, h1.2.2.1, h5.2, h3.2.2⟩
     · simp
   · simp
 · simp
set_option maxHeartbeats 4000000 in
theorem stext_ok (x : List Int) (p : Nat) (hp : p ≤ x.length) (hl : x.length ≤ 1000000) (hw : WfB x) : Ct Tryz.prog 128 [rdA] [curB x p] (.tup [B8 (texP x p).1, lv (.int .i64 (texP x p).2.1)]) [curB x (texP x p).2.2] [] := by
 have hr := headread_ok x p hp hl hw
 have hle := readP_le x p hp
 have hpos := readP_pos x p hw
 have hst : ¬ (readP x p).2.2 = 0 → (readP x p).2.1 = p := keepP_stay _ _ _
 have hat := at_ok x p
 unfold texP
 generalize readP x p = F at *
 obtain ⟨⟨⟨t1, t2, t3⟩, n⟩, q, e⟩ := F
 dsimp only at *
 by_cases he : e = 0
 · subst he
   rw [if_pos rfl]
   obtain ⟨N, rfl⟩ : ∃ N : Nat, n = N := ⟨n.toNat, by omega⟩
   rw [Int.toNat_natCast]
   have hat2 := at_ok x q
   have hlf := left_ok x q hle.2 (by omega)
   have hbk := back_ok x q p hle.1 (by omega)
   by_cases hN : (x.length : Int) - q < N
   · rw [if_pos hN]
     refine Ct_intro Tryz.func128 rfl rfl rfl rfl rfl (fun E hn hb => ?_)
     repeat refine nx ?_
     exact rtU []
   · rw [if_neg hN]
     have htk := take_ok x p (q - p + N) (by omega) hl
     rw [show ((q - p + N : Nat) : Int) = ((q : Int) - (p : Int)) + (N : Int) by omega, show p + (q - p + N) = q + N by omega] at htk
     refine Ct_intro Tryz.func128 rfl rfl rfl rfl rfl (fun E hn hb => ?_)
     repeat refine nx ?_
     exact rtU []
 · rw [if_neg he]
   obtain rfl := hst he
   refine Ct_intro Tryz.func128 rfl rfl rfl rfl rfl (fun E hn hb => ?_)
   repeat refine nx ?_
   exact rtU []
theorem seal_ok (x : List Int) (p : Nat) (hp : p ≤ x.length) (hl : x.length ≤ 1000000) (hw : WfB x) : Ct Tryz.prog 129 [rdA] [curB x p] (.tup [B8 (selP x p).1, lv (.int .i64 (selP x p).2.1)]) [curB x (selP x p).2.2] [] := by
 have hbr := bread_ok x p hp hl hw
 unfold selP
 generalize bitR x p = B at *
 obtain ⟨u, n, q, e⟩ := B
 dsimp only at *
 by_cases he : e = 0
 · subst he
   rw [if_pos rfl]
   by_cases hu : u = 0
   · subst hu
     rw [if_pos rfl]
     refine Ct_intro Tryz.func129 rfl rfl rfl rfl rfl (fun E hn hb => ?_)
     repeat refine nx ?_
     exact rt1 []
   · rw [if_neg hu]
     refine Ct_intro Tryz.func129 rfl rfl rfl rfl rfl (fun E hn hb => ?_)
     repeat refine nx ?_
     exact rtU []
 · rw [if_neg he]
   refine Ct_intro Tryz.func129 rfl rfl rfl rfl rfl (fun E hn hb => ?_)
   repeat refine nx ?_
   exact rtU []
set_option maxHeartbeats 8000000 in
theorem parts0_ok (x : List Int) (p : Nat) (hp : p ≤ x.length) (hl : x.length ≤ 100000) (hw : WfB x) : Ct Tryz.prog 94 [rdA] [curB x p] (.tup [sealA (parZ x p).1.1 (parZ x p).1.2.1 (parZ x p).1.2.2.1 (parZ x p).1.2.2.2, lv (.int .i64 (parZ x p).2.1)]) [curB x (parZ x p).2.2] [] := by
 have h1 := stext_ok x p hp (by omega) hw
 have l1 := texP_le x p hp hw
 unfold parZ
 generalize texP x p = T at *
 obtain ⟨t, e, q⟩ := T
 dsimp only at *
 by_cases he : e = 0
 · subst he
   rw [if_pos rfl]
   have h2 := readalg_ok x q l1.1 (by omega) hw
   have l2 := algR_le x q l1.1
   generalize algR x q = A at *
   obtain ⟨o, m, f, q2⟩ := A
   dsimp only at *
   by_cases hf : f = 0
   · subst hf
     rw [if_pos rfl]
     have h3 := seal_ok x q2 l2.2 (by omega) hw
     generalize selP x q2 = S at *
     obtain ⟨s, g, q3⟩ := S
     dsimp only at *
     by_cases hg : g = 0
     · subst hg
       rw [if_pos rfl]
       refine Ct_intro Tryz.func94 rfl rfl rfl rfl rfl (fun E hn hb => ?_)
       repeat refine nx ?_
       exact rt1 []
     · rw [if_neg hg]
       refine Ct_intro Tryz.func94 rfl rfl rfl rfl rfl (fun E hn hb => ?_)
       repeat refine nx ?_
       refine rtU [] (hu := ?_)
       exact ⟨⟨.inr ⟨rfl, .inl ⟨_, rfl⟩⟩, .inr ⟨rfl, .inl ⟨_, rfl⟩⟩, .inr ⟨rfl, .inl ⟨_, rfl⟩⟩, .inr ⟨rfl, .inl ⟨_, rfl⟩⟩, trivial⟩, .inl rfl, trivial⟩
   · rw [if_neg hf]
     refine Ct_intro Tryz.func94 rfl rfl rfl rfl rfl (fun E hn hb => ?_)
     repeat refine nx ?_
     refine rtU [] (hu := ?_)
     exact ⟨⟨.inr ⟨rfl, .inl ⟨_, rfl⟩⟩, .inr ⟨rfl, .inl ⟨_, rfl⟩⟩, .inr ⟨rfl, .inl ⟨_, rfl⟩⟩, .inr ⟨rfl, .inl ⟨_, rfl⟩⟩, trivial⟩, .inl rfl, trivial⟩
 · rw [if_neg he]
   refine Ct_intro Tryz.func94 rfl rfl rfl rfl rfl (fun E hn hb => ?_)
   repeat refine nx ?_
   refine rtU [] (hu := ?_)
   exact ⟨⟨.inr ⟨rfl, .inl ⟨_, rfl⟩⟩, .inr ⟨rfl, .inl ⟨_, rfl⟩⟩, .inr ⟨rfl, .inl ⟨_, rfl⟩⟩, .inr ⟨rfl, .inl ⟨_, rfl⟩⟩, trivial⟩, .inl rfl, trivial⟩
set_option maxHeartbeats 4000000 in
theorem parts_ok (l : List Int) (p : Nat) (hp : p ≤ l.length) (hl : l.length ≤ 100000) (hw : WfB l) : Ct Tryz.prog 43 [.c (.ptr 0 0)] [curB l p] (.tup [sealA (partsZ l p).1.1 (partsZ l p).1.2.1 (partsZ l p).1.2.2.1 (partsZ l p).1.2.2.2, lv (.int .i64 (partsZ l p).2.1)]) [curB l (partsZ l p).2.2] [] := by
 have hat := at_ok l p
 have h1 := parts0_ok l p hp hl hw
 have hle := parZ_le l p hp hw
 have hge : p ≤ (parZ l p).2.2 := parZ_ge l p hp hw
 have hnil := parZ_err l p
 unfold partsZ
 generalize parZ l p = A at *
 obtain ⟨⟨t, o, m, s⟩, e, q⟩ := A
 dsimp only at *
 by_cases he : e = 0
 · subst he
   rw [if_pos rfl]
   refine Ct_intro Tryz.func43 rfl rfl rfl rfl rfl (fun E hn hb => ?_)
   repeat refine nx ?_
   exact rt1 []
 · have hn2 := hnil he
   simp only [Prod.mk.injEq] at hn2
   obtain ⟨rfl, rfl, rfl, rfl⟩ := hn2
   rw [if_neg he]
   have hbk := back_ok l q p hge (by omega)
   refine Ct_intro Tryz.func43 rfl rfl rfl rfl rfl (fun E hn hb => ?_)
   repeat refine nx ?_
   exact rt1 []
set_option maxHeartbeats 4000000 in
theorem sread_ok (l : List Int) (p : Nat) (hp : p ≤ l.length) (hl : l.length ≤ 100000) (hw : WfB l) : Ct Tryz.prog 45 [.c (.ptr 0 0)] [curB l p] (.tup [sealA (readZ l p).1.1 (readZ l p).1.2.1 (readZ l p).1.2.2.1 (readZ l p).1.2.2.2, lv (.int .i64 (readZ l p).2.1)]) [curB l (readZ l p).2.2] [] := by
 have hat := at_ok l p
 have hho := headof_ok 16
 have hop := open_ok l p (ofT 16) hp (by omega) hw
 have hoe := open_err l p (ofT 16) hp (by omega) hw
 have hle := openP_le l p (ofT 16) hp
 have hmem := openP_mem l p (ofT 16)
 unfold readZ
 generalize openP l p (ofT 16) = X at *
 obtain ⟨x, q, e⟩ := X
 dsimp only at *
 by_cases he : e = 0
 · subst he
   rw [if_pos rfl]
   have hop := hop rfl
   have hxw : WfB x := fun y hy => hw y (hmem.2 y hy)
   have h1 := parts0_ok x 0 (Nat.zero_le _) (by omega) hxw
   have l1 := parZ_le x 0 (Nat.zero_le _) hxw
   have hbk := back_ok l q p hle.1 (by omega)
   generalize parZ x 0 = A at *
   obtain ⟨⟨t, o, m, s⟩, f, q2⟩ := A
   dsimp only at *
   have hlf := left_ok x q2 l1 (by omega)
   by_cases hf : f = 0
   · subst hf
     rw [if_pos rfl]
     by_cases hm : q2 < x.length
     · rw [if_pos hm]
       refine Ct_intro Tryz.func45 rfl rfl rfl rfl rfl (fun E hn hb => ?_)
       repeat refine nx ?_
       refine rtU [] (hu := ?_)
       exact ⟨⟨.inr ⟨rfl, .inl ⟨_, rfl⟩⟩, .inr ⟨rfl, .inl ⟨_, rfl⟩⟩, .inr ⟨rfl, .inl ⟨_, rfl⟩⟩, .inr ⟨rfl, .inl ⟨_, rfl⟩⟩, trivial⟩, .inl rfl, trivial⟩
     · rw [if_neg hm]
       refine Ct_intro Tryz.func45 rfl rfl rfl rfl rfl (fun E hn hb => ?_)
       repeat refine nx ?_
       exact rt1 []
   · rw [if_neg hf]
     refine Ct_intro Tryz.func45 rfl rfl rfl rfl rfl (fun E hn hb => ?_)
     repeat refine nx ?_
     refine rtU [] (hu := ?_)
     exact ⟨⟨.inr ⟨rfl, .inl ⟨_, rfl⟩⟩, .inr ⟨rfl, .inl ⟨_, rfl⟩⟩, .inr ⟨rfl, .inl ⟨_, rfl⟩⟩, .inr ⟨rfl, .inl ⟨_, rfl⟩⟩, trivial⟩, .inl rfl, trivial⟩
 · rw [if_neg he]
   have hoe := hoe he
   refine Ct_intro Tryz.func45 rfl rfl rfl rfl rfl (fun E hn hb => ?_)
   repeat refine nx ?_
   refine rtU [] (hu := ?_)
   exact ⟨⟨.inr ⟨rfl, .inl ⟨_, rfl⟩⟩, .inr ⟨rfl, .inl ⟨_, rfl⟩⟩, .inr ⟨rfl, .inl ⟨_, rfl⟩⟩, .inr ⟨rfl, .inl ⟨_, rfl⟩⟩, trivial⟩, .inl rfl, trivial⟩
theorem readZ_le (l : List Int) (p : Nat) (hp : p ≤ l.length) : p ≤ (readZ l p).2.2 ∧ (readZ l p).2.2 ≤ l.length := by
 have h := openP_le l p (ofT 16) hp
 unfold readZ
 dsimp only
 split
 · split
   · split
     · exact ⟨Nat.le_refl _, hp⟩
     · exact h
   · exact ⟨Nat.le_refl _, hp⟩
 · exact ⟨Nat.le_refl _, hp⟩
set_option maxHeartbeats 4000000 in
theorem sparse_ok (l : List Int) (hl : l.length ≤ 100000) (hw : WfB l) : Ct Tryz.prog 47 [B8 l] [] (.tup [sealA (parseZ l).1.1 (parseZ l).1.2.1 (parseZ l).1.2.2.1 (parseZ l).1.2.2.2, lv (.int .i64 (parseZ l).2)]) [] [] := by
 have hcn := curnew_ok l (by omega)
 have h1 := sread_ok l 0 (Nat.zero_le _) hl hw
 have l1 := readZ_le l 0 (Nat.zero_le _)
 unfold parseZ
 generalize readZ l 0 = A at *
 obtain ⟨⟨t, o, m, s⟩, f, q2⟩ := A
 dsimp only at *
 have hlf := left_ok l q2 l1.2 (by omega)
 by_cases hf : f = 0
 · subst hf
   rw [if_pos rfl]
   by_cases hm : q2 < l.length
   · rw [if_pos hm]
     refine Ct_intro Tryz.func47 rfl rfl rfl rfl rfl (fun E hn hb => ?_)
     repeat refine nx ?_
     refine rtU [] (hu := ?_)
     exact ⟨⟨.inr ⟨rfl, .inl ⟨_, rfl⟩⟩, .inr ⟨rfl, .inl ⟨_, rfl⟩⟩, .inr ⟨rfl, .inl ⟨_, rfl⟩⟩, .inr ⟨rfl, .inl ⟨_, rfl⟩⟩, trivial⟩, .inl rfl, trivial⟩
   · rw [if_neg hm]
     refine Ct_intro Tryz.func47 rfl rfl rfl rfl rfl (fun E hn hb => ?_)
     repeat refine nx ?_
     exact rt1 []
 · rw [if_neg hf]
   refine Ct_intro Tryz.func47 rfl rfl rfl rfl rfl (fun E hn hb => ?_)
   repeat refine nx ?_
   refine rtU [] (hu := ?_)
   exact ⟨⟨.inr ⟨rfl, .inl ⟨_, rfl⟩⟩, .inr ⟨rfl, .inl ⟨_, rfl⟩⟩, .inr ⟨rfl, .inl ⟨_, rfl⟩⟩, .inr ⟨rfl, .inl ⟨_, rfl⟩⟩, trivial⟩, .inl rfl, trivial⟩
end Go.Proofs.YthoaneleeabadaaGreat

namespace Go.Sx
open Go
set_option linter.unusedVariables false
section
variable {P : Program} {E : Env} {ops : Array Oper} {o : Oper} {σ : St} {ns b own : List Nat} {bs : List (List Nat × List Nat)} {l : List Oper} {K : St → Prop}
theorem dea1 {d : Option Nat} {t t' e : TypeId} {n : Nat} {k k' : IntKind} {y z : Operand} {p q : List Prop} {l1 m : List Int} (hk : DrawU P E ops ns bs l (σ.put d (lv (.bool ((l1 == m) != false)))) K) (hop : o.op = .binOp .eql t y z t' := by exact rfl) (hg : o.guard = none := by exact rfl) (hd : forceO o.dst some = some d := by exact rfl) (hE : dstOk E.n d = true := by rw [hn]; exact rfl)
   (ht : P.underlying t = some (.array n e) := by exact rfl) (he : P.underlying e = some (.int k') := by exact rfl) (hc : P.cellsOf e = 1 := by first | (simp; done) | fail) (hy : ox ⟨σ.tm, fgt b σ.hp⟩ y = (p, .ai k l1) := by exact rfl) (hz : ox ⟨σ.tm, fgt b σ.hp⟩ z = (q, .ai k m) := by exact rfl) (hT : P.eqGuardType P.depth t = false := by kernel_rfl)
   (hl : l1.length = n := by first | assumption | (simp; done) | omega) (hm : m.length = n := by first | assumption | (simp; done) | omega) (hp : AllP (p ++ q) := by first | trivial | (simp; done) | (simp at *; done)) : DrawU P E ops ns ((b, own) :: bs) (o :: l) σ K :=
 DU_op hd hE (ops_of (opys_eqA (neg := false) hop ht he hc hy hz hp hT hl hm) hg) hk
theorem dea2 {i : Nat} {g G : Bool} {d : Option Nat} {t t' e : TypeId} {n : Nat} {k k' : IntKind} {y z : Operand} {p q : List Prop} {l1 m : List Int} (hk : DrawU P E ops ns bs l (σ.put d (.cnd G (lv (.bool ((l1 == m) != false))))) K) (hop : o.op = .binOp .eql t y z t' := by exact rfl) (hg : o.guard = some (i, g) := by exact rfl) (hG : guardC ops ⟨σ.tm, fgt b σ.hp⟩ i g = some G := by exact rfl) (hd : forceO o.dst some = some d := by exact rfl) (hE : dstOk E.n d = true := by rw [hn]; exact rfl)
   (ht : P.underlying t = some (.array n e) := by exact rfl) (he : P.underlying e = some (.int k') := by exact rfl) (hc : P.cellsOf e = 1 := by first | (simp; done) | fail) (hy : ox ⟨σ.tm, fgt b σ.hp⟩ y = (p, .ai k l1) := by exact rfl) (hz : ox ⟨σ.tm, fgt b σ.hp⟩ z = (q, .ai k m) := by exact rfl) (hT : P.eqGuardType P.depth t = false := by kernel_rfl)
   (hl : l1.length = n := by first | assumption | (simp; done) | omega) (hm : m.length = n := by first | assumption | (simp; done) | omega) (hp : G = true → AllP (p ++ q) := by intro hG; first | trivial | exact hG | exact ⟨hG, hG⟩ | exact ⟨hG, trivial⟩ | (simp; done) | (simp at *; done) | fail) : DrawU P E ops ns ((b, own) :: bs) (o :: l) σ K :=
 DU_op hd hE (ops_ofG hg hG fun h => opys_eqA (neg := false) hop ht he hc hy hz (hp h) hT hl hm) hk
theorem dna1 {d : Option Nat} {t t' e : TypeId} {n : Nat} {k k' : IntKind} {y z : Operand} {p q : List Prop} {l1 m : List Int} (hk : DrawU P E ops ns bs l (σ.put d (lv (.bool ((l1 == m) != true)))) K) (hop : o.op = .binOp .neq t y z t' := by exact rfl) (hg : o.guard = none := by exact rfl) (hd : forceO o.dst some = some d := by exact rfl) (hE : dstOk E.n d = true := by rw [hn]; exact rfl)
   (ht : P.underlying t = some (.array n e) := by exact rfl) (he : P.underlying e = some (.int k') := by exact rfl) (hc : P.cellsOf e = 1 := by first | (simp; done) | fail) (hy : ox ⟨σ.tm, fgt b σ.hp⟩ y = (p, .ai k l1) := by exact rfl) (hz : ox ⟨σ.tm, fgt b σ.hp⟩ z = (q, .ai k m) := by exact rfl) (hT : P.eqGuardType P.depth t = false := by kernel_rfl)
   (hl : l1.length = n := by first | assumption | (simp; done) | omega) (hm : m.length = n := by first | assumption | (simp; done) | omega) (hp : AllP (p ++ q) := by first | trivial | (simp; done) | (simp at *; done)) : DrawU P E ops ns ((b, own) :: bs) (o :: l) σ K :=
 DU_op hd hE (ops_of (opys_eqA (neg := true) hop ht he hc hy hz hp hT hl hm) hg) hk
theorem dna2 {i : Nat} {g G : Bool} {d : Option Nat} {t t' e : TypeId} {n : Nat} {k k' : IntKind} {y z : Operand} {p q : List Prop} {l1 m : List Int} (hk : DrawU P E ops ns bs l (σ.put d (.cnd G (lv (.bool ((l1 == m) != true))))) K) (hop : o.op = .binOp .neq t y z t' := by exact rfl) (hg : o.guard = some (i, g) := by exact rfl) (hG : guardC ops ⟨σ.tm, fgt b σ.hp⟩ i g = some G := by exact rfl) (hd : forceO o.dst some = some d := by exact rfl) (hE : dstOk E.n d = true := by rw [hn]; exact rfl)
   (ht : P.underlying t = some (.array n e) := by exact rfl) (he : P.underlying e = some (.int k') := by exact rfl) (hc : P.cellsOf e = 1 := by first | (simp; done) | fail) (hy : ox ⟨σ.tm, fgt b σ.hp⟩ y = (p, .ai k l1) := by exact rfl) (hz : ox ⟨σ.tm, fgt b σ.hp⟩ z = (q, .ai k m) := by exact rfl) (hT : P.eqGuardType P.depth t = false := by kernel_rfl)
   (hl : l1.length = n := by first | assumption | (simp; done) | omega) (hm : m.length = n := by first | assumption | (simp; done) | omega) (hp : G = true → AllP (p ++ q) := by intro hG; first | trivial | exact hG | exact ⟨hG, hG⟩ | exact ⟨hG, trivial⟩ | (simp; done) | (simp at *; done) | fail) : DrawU P E ops ns ((b, own) :: bs) (o :: l) σ K :=
 DU_op hd hE (ops_ofG hg hG fun h => opys_eqA (neg := true) hop ht he hc hy hz (hp h) hT hl hm) hk
theorem opys_arr {t : TypeId} {parts : Array (Nat × Operand)} {d : Option Nat} {ps : List Prop} {x : Av} (hop : o.op = .build t parts) (h : norm o.dst (arrP P t (parts.toList.map fun (i, x) => (i, ox σ x))) = some (d, ps, x)) (hp : AllP ps) : OpYS P E ops o σ x := fun τ hl => by
 have e1 : (parts.toList.map fun (i, x) => (i, ox τ x)) = parts.toList.map fun (i, x) => (i, ox σ x) := List.map_congr_left fun p hp => by
   obtain ⟨i, y⟩ := p
   have : ox τ y = ox σ y := hl.ox y (by
     rw [hop]
     simp only [Op.operands]
     simp
     exact ⟨i, by simpa using hp⟩)
   simp only [this]
 exact opy_arr hop (by rw [e1]; exact h) hp
theorem dba1 {t : TypeId} {parts : Array (Nat × Operand)} {d d' : Option Nat} {ps : List Prop} {x : Av} (hk : DrawU P E ops ns bs l (σ.put d x) K) (hop : o.op = .build t parts := by exact rfl) (hg : o.guard = none := by exact rfl) (hd : forceO o.dst some = some d := by exact rfl) (hE : dstOk E.n d = true := by rw [hn]; exact rfl)
   (h : norm o.dst (arrP P t (parts.toList.map fun (i, x) => (i, ox ⟨σ.tm, fgt b σ.hp⟩ x))) = some (d', ps, x) := by exact rfl) (hp : AllP ps := by first | trivial | (simp; done) | (simp; omega) | (simp at *; done)) : DrawU P E ops ns ((b, own) :: bs) (o :: l) σ K := DU_op hd hE (ops_of (opys_arr hop h hp) hg) hk
theorem ba1 {Q : Exit → Act → World → Prop} {rest : List Oper} {t : TypeId} {parts : Array (Nat × Operand)} {d d' : Option Nat} {ps : List Prop} {x : Av} (hk : WL P E ops Q rest (σ.put d x)) (hop : o.op = .build t parts := by exact rfl) (hg : o.guard = none := by exact rfl) (hd : forceO o.dst some = some d := by exact rfl) (hE : dstOk E.n d = true := by rw [hn]; exact rfl)
   (h : norm o.dst (arrP P t (parts.toList.map fun (i, x) => (i, ox σ x))) = some (d', ps, x) := by exact rfl) (hp : AllP ps := by first | trivial | (simp; done) | (simp; omega) | (simp at *; done)) : WL P E ops Q (o :: rest) σ := by
 simp only [forceO_eq, Option.some.injEq] at hd
 subst hd
 exact WL_q (opq_of (opy_arr hop h hp) hg) hE hk
end
end Go.Sx

namespace Go.Proofs.YthoaneleeabadaaGreat
set_option linter.unusedSimpArgs false
set_option linter.unusedVariables false
open Go.Sx
set_option maxRecDepth 10000
theorem sof_ok (t o m s : List Int) : Ct Tryz.prog 38 [sealA t o m s] [] (sealA t o m s) [] [] := by
 have h := ofalg_ok o m
 refine Ct_intro Tryz.func38 rfl rfl rfl rfl rfl (fun E hn hb => ?_)
 repeat refine nx ?_
 exact rt1 []
theorem slike_ok (t o m s : List Int) (ht : t.length ≤ 1000000) (ho : o.length ≤ 1000000) (hm : m.length ≤ 1000000) (hs : s.length ≤ 1000000) : Ct Tryz.prog 37 [sealA t o m s, sealA t o m s] [] (lv (.bool true)) [] [] := by
 have h1 := likealg_ok o m ho hm
 have h2 := same_ok t t ht ht
 have h3 := same_ok s s hs hs
 rw [decide_eq_true rfl] at h2 h3
 refine Ct_intro Tryz.func37 rfl rfl rfl rfl rfl (fun E hn hb => ?_)
 repeat refine nx ?_
 refine rt2 [] (congrArg (fun x => lv (.bool x)) ?_) trivial; (simp [eqCs, Cell.kill, Cell.kill1])
theorem readZ_len (l : List Int) (p : Nat) (hw : WfB l) : (readZ l p).1.1.length ≤ l.length ∧ (readZ l p).1.2.1.length ≤ 32 ∧ (readZ l p).1.2.2.1.length ≤ l.length ∧ (readZ l p).1.2.2.2.length ≤ l.length := by
 have hm := openP_mem l p (ofT 16)
 have h := parZ_len (openP l p (ofT 16)).1 0 (Nat.zero_le _) (fun y hy => hw y (hm.2 y hy))
 unfold readZ
 dsimp only
 split
 · split
   · split
     · simp
     · dsimp only; omega
   · simp
 · simp
theorem parseZ_len (l : List Int) (hw : WfB l) : (parseZ l).1.1.length ≤ l.length ∧ (parseZ l).1.2.1.length ≤ 32 ∧ (parseZ l).1.2.2.1.length ≤ l.length ∧ (parseZ l).1.2.2.2.length ≤ l.length := by
 have h := readZ_len l 0 hw
 unfold parseZ
 dsimp only
 split
 · split
   · simp
   · exact h
 · simp
def placeZ (l : List Int) : Int × Int := if (parseZ l).2 = 0 then (((readP l 0).2.1 : Int), ((readP l 0).2.1 : Int) + ((parseZ l).1.1.length : Int)) else (0, 0)
set_option maxHeartbeats 4000000 in
theorem place_ok (l : List Int) (hl : l.length ≤ 100000) (hw : WfB l) : Ct Tryz.prog 49 [B8 l] [] (.tup [.agg [.lf (.v (.int .i64 (placeZ l).1)), .lf (.v (.int .i64 (placeZ l).2))], lv (.int .i64 (parseZ l).2)]) [] [] := by
 have hcn := curnew_ok l (by omega)
 have h1 := sparse_ok l hl hw
 have hr := headread_ok l 0 (Nat.zero_le _) (by omega) hw
 have hle := readP_le l 0 (Nat.zero_le _)
 have hlen := parseZ_len l hw
 unfold placeZ
 generalize readP l 0 = R at *
 obtain ⟨⟨⟨t1, t2, t3⟩, n⟩, q, e⟩ := R
 generalize parseZ l = A at *
 obtain ⟨⟨t, o, m, s⟩, f⟩ := A
 dsimp only at *
 have hat := at_ok l q
 by_cases hf : f = 0
 · subst hf
   rw [if_pos rfl]
   refine Ct_intro Tryz.func49 rfl rfl rfl rfl rfl (fun E hn hb => ?_)
   repeat (first | refine nxm ?_ | refine dna2 ?_ | refine dea2 ?_ | refine dna1 ?_ | refine dea1 ?_ | refine ba1 ?_ | refine dba1 ?_)
   exact rt1 []
 · rw [if_neg hf]
   refine Ct_intro Tryz.func49 rfl rfl rfl rfl rfl (fun E hn hb => ?_)
   repeat (first | refine nxm ?_ | refine dna2 ?_ | refine dea2 ?_ | refine dna1 ?_ | refine dea1 ?_ | refine ba1 ?_ | refine dba1 ?_)
   exact rt1 []

set_option maxRecDepth 10000
theorem rwralgD_ok (o m : List Int) (hg : rightG o m = true) (hm : m.length ≤ 100000) : Ct Tryz.prog 29 [algA o m] [] (B8 (wrG o m).1) [] [] :=
 (rwralg_ok o m hg hm).freeze ⟨rfl, rfl, rfl, by simp, by rw [List.drop_zero, List.take_length]⟩ rfl
theorem arcT_wf : ∀ (k n : Nat), WfB (arcT k n)
 | 0, n => fun x hx => by simp [arcT] at hx
 | k + 1, n => fun x hx => by
   unfold arcT at hx
   split at hx
   · cases hx
   · rcases List.mem_cons.1 hx with rfl | hx
     · omega
     · exact arcT_wf k (n / 128) x hx
theorem arcL_wf (n : Nat) : WfB (arcL n) := fun x hx => by
 unfold arcL at hx
 rw [List.mem_reverse] at hx
 rcases List.mem_cons.1 hx with rfl | hx
 · omega
 · exact arcT_wf 5 _ x hx
theorem arcsL_wf (l : List Int) : WfB (arcsL l) := fun x hx => by
 unfold arcsL at hx
 obtain ⟨y, _, hy⟩ := List.mem_flatMap.1 hx
 exact arcL_wf _ x hy
theorem wrG_wf (o : List Int) {m : List Int} (hw : WfB m) : WfB (wrapL (ofT 16) (wrapL (ofT 6) (arcsL (numsL o)) ++ m)) :=
 wrap_wf _ _ (by decide) (wf_app (wrap_wf _ _ (by decide) (arcsL_wf _)) hw)
end Go.Proofs.YthoaneleeabadaaGreat

namespace Go.Proofs.YthoaneleeabadaaGreat
set_option linter.unusedSimpArgs false
set_option linter.unusedVariables false
open Go.Sx
set_option maxRecDepth 10000
abbrev bnilC : Cell := .lf (.v (.slice none 0 0))
abbrev shC (t : TagP) (b a : Cell) (e : Int) : Blk := .cells [i64c t.1, i64c t.2.1, .lf (.v (.bool t.2.2)), .lf (.v (.bool false)), b, a, i64c e]
abbrev sh0 : Blk := shC tag0 bnilC bnilC 0
abbrev r8 (l : List Int) : Blk := .row (.ints .u8 l)
theorem bnew_ok : Ct Tryz.prog 104 [] [] (.c (.ptr 0 0)) [] [sh0] := by
 refine Ct_intro Tryz.func104 rfl rfl rfl rfl rfl (fun E hn hb => ?_)
 repeat refine nx ?_
 exact rt1 [66]
end Go.Proofs.YthoaneleeabadaaGreat

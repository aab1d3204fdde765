/-
  A sheet without frames; sealed things as parts and as wholes; what is right. The conditions: rows of bytes that a machine can hold.
-/
import Derived.Test.YthoaneleeabadaaGreatA23
import Derived.Test.YthoaneleeabadaaGreatA22
import Derived.Test.YthoaneleeabadaaGreatM10
import Derived.Test.YthoaneleeabadaaGreatA11
import Derived.Test.YthoaneleeabadaaGreatA14
import Derived.Test.YthoaneleeabadaaGreatSxR
import Derived.Test.YthoaneleeabadaaGreatSxP
namespace Go.Proofs.YthoaneleeabadaaGreat
set_option linter.unusedSimpArgs false
set_option linter.unusedVariables false
open Go.Sx
set_option maxRecDepth 10000
theorem toalg_ok (o m : List Int) (ho : o.length ≤ 9223372036854775807) (hm : m.length ≤ 9223372036854775807) : Ct Tryz.prog 58 [algA o m] [] (algA (o.take (min (o.length : Int) 40).toNat) (m.take (min (m.length : Int) 200).toNat)) [] [] := by
 refine Ct_intro Tryz.func58 rfl rfl rfl rfl rfl (fun E hn hb => ?_)
 repeat refine nx ?_
 exact rt1 []
theorem rhmac_ok : Ct Tryz.prog 21 [] [] (algA [1, 2, 840, 113549, 2, 9] [5, 0]) [] [] := by
 refine Ct_intro Tryz.func21 rfl rfl rfl rfl rfl (fun E hn hb => ?_)
 repeat refine nx ?_
 exact rt1 []

abbrev sealA (t o m s : List Int) : Av := .agg [.lf (.ints .u8 t), .lf (.ints .i64 o), .lf (.ints .u8 m), .lf (.ints .u8 s)]
def texP (x : List Int) (p : Nat) : List Int × Int × Nat :=
 let r := readP x p
 if r.2.2 = 0 then (if (x.length : Int) - (r.2.1 : Int) < r.1.2 then ([], 3, r.2.1) else ((x.drop p).take (r.2.1 - p + r.1.2.toNat), 0, r.2.1 + r.1.2.toNat)) else ([], r.2.2, p)
def selP (x : List Int) (p : Nat) : List Int × Int × Nat :=
 let r := bitR x p
 if r.2.2.2 = 0 then (if r.1 = 0 then (r.2.1, 0, r.2.2.1) else ([], 6, r.2.2.1)) else ([], r.2.2.2, r.2.2.1)
abbrev Sld := List Int × List Int × List Int × List Int
def parZ (x : List Int) (p : Nat) : Sld × Int × Nat :=
 let t := texP x p
 if t.2.1 = 0 then
   (let a := algR x t.2.2
    if a.2.2.1 = 0 then (let s := selP x a.2.2.2; if s.2.1 = 0 then ((t.1, a.1, a.2.1, s.1), 0, s.2.2) else (([], [], [], []), s.2.1, s.2.2))
    else (([], [], [], []), a.2.2.1, a.2.2.2))
 else (([], [], [], []), t.2.1, t.2.2)
def readZ (l : List Int) (p : Nat) : Sld × Int × Nat :=
 let r := openP l p (ofT 16)
 if r.2.2 = 0 then (let a := parZ r.1 0; if a.2.1 = 0 then (if a.2.2 < r.1.length then (([], [], [], []), 7, p) else (a.1, 0, r.2.1)) else (([], [], [], []), a.2.1, p)) else (([], [], [], []), r.2.2, p)
def parseZ (b : List Int) : Sld × Int := let r := readZ b 0; if r.2.1 = 0 then (if r.2.2 < b.length then (([], [], [], []), 7) else (r.1, 0)) else (([], [], [], []), r.2.1)
theorem texP_le (x : List Int) (p : Nat) (hp : p ≤ x.length) (hw : WfB x) : (texP x p).2.2 ≤ x.length ∧ (texP x p).1.length ≤ x.length ∧ (∀ y ∈ (texP x p).1, y ∈ x) ∧ (¬ (texP x p).2.1 = 0 → (texP x p).1 = []) := by
 have h := readP_le x p hp
 have hpos := readP_pos x p hw
 unfold texP
 dsimp only
 split
 · split
   · exact ⟨h.2, by simp, (fun y hy => by cases hy), fun _ => rfl⟩
   · refine ⟨by dsimp only; omega, by simp; omega, fun y hy => List.mem_of_mem_drop (List.mem_of_mem_take hy), fun h => absurd rfl h⟩
 · exact ⟨hp, by simp, (fun y hy => by cases hy), fun _ => rfl⟩
theorem bitR_mem (l : List Int) (p : Nat) : ∀ y ∈ (bitR l p).2.1, y ∈ l := by
 have hm := openP_mem l p (ofT 3)
 unfold bitR
 dsimp only
 split
 · split
   · intro y hy
     refine hm.2 y ?_
     unfold parS at hy
     split at hy
     · cases hy
     · split at hy
       · rename_i e _; rw [e]; exact List.mem_cons_of_mem _ hy
       · cases hy
   · intro y hy; cases hy
 · intro y hy; cases hy
theorem selP_le (x : List Int) (p : Nat) (hp : p ≤ x.length) : (selP x p).2.2 ≤ x.length ∧ (selP x p).1.length ≤ x.length ∧ (∀ y ∈ (selP x p).1, y ∈ x) := by
 have h := bitR_le x p hp
 have h2 := bitR_len x p
 have h3 := bitR_mem x p
 unfold selP
 dsimp only
 split
 · split
   · exact ⟨h.2, h2, h3⟩
   · exact ⟨h.2, by simp, fun y hy => by cases hy⟩
 · exact ⟨h.2, by simp, fun y hy => by cases hy⟩
theorem parZ_le (x : List Int) (p : Nat) (hp : p ≤ x.length) (hw : WfB x) : (parZ x p).2.2 ≤ x.length := by
 have h1 := (texP_le x p hp hw).1
 have h2 := (algR_le x (texP x p).2.2 h1).2
 have h3 := (selP_le x _ h2).1
 unfold parZ
 dsimp only
 split
 · split
   · split
     · exact h3
     · exact h3
   · exact h2
 · exact h1
set_option maxHeartbeats 4000000 in
theorem stext_ok (x : List Int) (p : Nat) (hp : p ≤ x.length) (hl : x.length ≤ 1000000) (hw : WfB x) : Ct Tryz.prog 128 [rdA] [curB x p] (.tup [B8 (texP x p).1, lv (.int .i64 (texP x p).2.1)]) [curB x (texP x p).2.2] [] := by
 have hr := headread_ok x p hp hl hw
 have hle := readP_le x p hp
 have hpos := readP_pos x p hw
 have hst : ¬ (readP x p).2.2 = 0 → (readP x p).2.1 = p := keepP_stay _ _ _
 have hat := at_ok x p
 unfold texP
 generalize readP x p = F at *
 obtain ⟨⟨⟨t1, t2, t3⟩, n⟩, q, e⟩ := F
 dsimp only at *
 by_cases he : e = 0
 · subst he
   rw [if_pos rfl]
   obtain ⟨N, rfl⟩ : ∃ N : Nat, n = N := ⟨n.toNat, by omega⟩
   rw [Int.toNat_natCast]
   have hat2 := at_ok x q
   have hlf := left_ok x q hle.2 (by omega)
   have hbk := back_ok x q p hle.1 (by omega)
   by_cases hN : (x.length : Int) - q < N
   · rw [if_pos hN]
     refine Ct_intro Tryz.func128 rfl rfl rfl rfl rfl (fun E hn hb => ?_)
     repeat refine nx ?_
     exact rtU []
   · rw [if_neg hN]
     have htk := take_ok x p (q - p + N) (by omega) hl
     rw [show ((q - p + N : Nat) : Int) = ((q : Int) - (p : Int)) + (N : Int) by omega, show p + (q - p + N) = q + N by omega] at htk
     refine Ct_intro Tryz.func128 rfl rfl rfl rfl rfl (fun E hn hb => ?_)
     repeat refine nx ?_
     exact rtU []
 · rw [if_neg he]
   obtain rfl := hst he
   refine Ct_intro Tryz.func128 rfl rfl rfl rfl rfl (fun E hn hb => ?_)
   repeat refine nx ?_
   exact rtU []
theorem seal_ok (x : List Int) (p : Nat) (hp : p ≤ x.length) (hl : x.length ≤ 1000000) (hw : WfB x) : Ct Tryz.prog 129 [rdA] [curB x p] (.tup [B8 (selP x p).1, lv (.int .i64 (selP x p).2.1)]) [curB x (selP x p).2.2] [] := by
 have hbr := bread_ok x p hp hl hw
 unfold selP
 generalize bitR x p = B at *
 obtain ⟨u, n, q, e⟩ := B
 dsimp only at *
 by_cases he : e = 0
 · subst he
   rw [if_pos rfl]
   by_cases hu : u = 0
   · subst hu
     rw [if_pos rfl]
     refine Ct_intro Tryz.func129 rfl rfl rfl rfl rfl (fun E hn hb => ?_)
     repeat refine nx ?_
     exact rt1 []
   · rw [if_neg hu]
     refine Ct_intro Tryz.func129 rfl rfl rfl rfl rfl (fun E hn hb => ?_)
     repeat refine nx ?_
     exact rtU []
 · rw [if_neg he]
   refine Ct_intro Tryz.func129 rfl rfl rfl rfl rfl (fun E hn hb => ?_)
   repeat refine nx ?_
   exact rtU []
set_option maxHeartbeats 8000000 in
theorem parts0_ok (x : List Int) (p : Nat) (hp : p ≤ x.length) (hl : x.length ≤ 100000) (hw : WfB x) : Ct Tryz.prog 94 [rdA] [curB x p] (.tup [sealA (parZ x p).1.1 (parZ x p).1.2.1 (parZ x p).1.2.2.1 (parZ x p).1.2.2.2, lv (.int .i64 (parZ x p).2.1)]) [curB x (parZ x p).2.2] [] := by
 have h1 := stext_ok x p hp (by omega) hw
 have l1 := texP_le x p hp hw
 unfold parZ
 generalize texP x p = T at *
 obtain ⟨t, e, q⟩ := T
 dsimp only at *
 by_cases he : e = 0
 · subst he
   rw [if_pos rfl]
   have h2 := readalg_ok x q l1.1 (by omega) hw
   have l2 := algR_le x q l1.1
   generalize algR x q = A at *
   obtain ⟨o, m, f, q2⟩ := A
   dsimp only at *
   by_cases hf : f = 0
   · subst hf
     rw [if_pos rfl]
     have h3 := seal_ok x q2 l2.2 (by omega) hw
     generalize selP x q2 = S at *
     obtain ⟨s, g, q3⟩ := S
     dsimp only at *
     by_cases hg : g = 0
     · subst hg
       rw [if_pos rfl]
       refine Ct_intro Tryz.func94 rfl rfl rfl rfl rfl (fun E hn hb => ?_)
       repeat refine nx ?_
       exact rt1 []
     · rw [if_neg hg]
       refine Ct_intro Tryz.func94 rfl rfl rfl rfl rfl (fun E hn hb => ?_)
       repeat refine nx ?_
       refine rtU [] (hu := ?_)
       exact ⟨⟨.inr ⟨rfl, .inl ⟨_, rfl⟩⟩, .inr ⟨rfl, .inl ⟨_, rfl⟩⟩, .inr ⟨rfl, .inl ⟨_, rfl⟩⟩, .inr ⟨rfl, .inl ⟨_, rfl⟩⟩, trivial⟩, .inl rfl, trivial⟩
   · rw [if_neg hf]
     refine Ct_intro Tryz.func94 rfl rfl rfl rfl rfl (fun E hn hb => ?_)
     repeat refine nx ?_
     refine rtU [] (hu := ?_)
     exact ⟨⟨.inr ⟨rfl, .inl ⟨_, rfl⟩⟩, .inr ⟨rfl, .inl ⟨_, rfl⟩⟩, .inr ⟨rfl, .inl ⟨_, rfl⟩⟩, .inr ⟨rfl, .inl ⟨_, rfl⟩⟩, trivial⟩, .inl rfl, trivial⟩
 · rw [if_neg he]
   refine Ct_intro Tryz.func94 rfl rfl rfl rfl rfl (fun E hn hb => ?_)
   repeat refine nx ?_
   refine rtU [] (hu := ?_)
   exact ⟨⟨.inr ⟨rfl, .inl ⟨_, rfl⟩⟩, .inr ⟨rfl, .inl ⟨_, rfl⟩⟩, .inr ⟨rfl, .inl ⟨_, rfl⟩⟩, .inr ⟨rfl, .inl ⟨_, rfl⟩⟩, trivial⟩, .inl rfl, trivial⟩
set_option maxHeartbeats 4000000 in
theorem sread_ok (l : List Int) (p : Nat) (hp : p ≤ l.length) (hl : l.length ≤ 100000) (hw : WfB l) : Ct Tryz.prog 45 [.c (.ptr 0 0)] [curB l p] (.tup [sealA (readZ l p).1.1 (readZ l p).1.2.1 (readZ l p).1.2.2.1 (readZ l p).1.2.2.2, lv (.int .i64 (readZ l p).2.1)]) [curB l (readZ l p).2.2] [] := by
 have hat := at_ok l p
 have hho := headof_ok 16
 have hop := open_ok l p (ofT 16) hp (by omega) hw
 have hoe := open_err l p (ofT 16) hp (by omega) hw
 have hle := openP_le l p (ofT 16) hp
 have hmem := openP_mem l p (ofT 16)
 unfold readZ
 generalize openP l p (ofT 16) = X at *
 obtain ⟨x, q, e⟩ := X
 dsimp only at *
 by_cases he : e = 0
 · subst he
   rw [if_pos rfl]
   have hop := hop rfl
   have hxw : WfB x := fun y hy => hw y (hmem.2 y hy)
   have h1 := parts0_ok x 0 (Nat.zero_le _) (by omega) hxw
   have l1 := parZ_le x 0 (Nat.zero_le _) hxw
   have hbk := back_ok l q p hle.1 (by omega)
   generalize parZ x 0 = A at *
   obtain ⟨⟨t, o, m, s⟩, f, q2⟩ := A
   dsimp only at *
   have hlf := left_ok x q2 l1 (by omega)
   by_cases hf : f = 0
   · subst hf
     rw [if_pos rfl]
     by_cases hm : q2 < x.length
     · rw [if_pos hm]
       refine Ct_intro Tryz.func45 rfl rfl rfl rfl rfl (fun E hn hb => ?_)
       repeat refine nx ?_
       refine rtU [] (hu := ?_)
       exact ⟨⟨.inr ⟨rfl, .inl ⟨_, rfl⟩⟩, .inr ⟨rfl, .inl ⟨_, rfl⟩⟩, .inr ⟨rfl, .inl ⟨_, rfl⟩⟩, .inr ⟨rfl, .inl ⟨_, rfl⟩⟩, trivial⟩, .inl rfl, trivial⟩
     · rw [if_neg hm]
       refine Ct_intro Tryz.func45 rfl rfl rfl rfl rfl (fun E hn hb => ?_)
       repeat refine nx ?_
       exact rt1 []
   · rw [if_neg hf]
     refine Ct_intro Tryz.func45 rfl rfl rfl rfl rfl (fun E hn hb => ?_)
     repeat refine nx ?_
     refine rtU [] (hu := ?_)
     exact ⟨⟨.inr ⟨rfl, .inl ⟨_, rfl⟩⟩, .inr ⟨rfl, .inl ⟨_, rfl⟩⟩, .inr ⟨rfl, .inl ⟨_, rfl⟩⟩, .inr ⟨rfl, .inl ⟨_, rfl⟩⟩, trivial⟩, .inl rfl, trivial⟩
 · rw [if_neg he]
   have hoe := hoe he
   refine Ct_intro Tryz.func45 rfl rfl rfl rfl rfl (fun E hn hb => ?_)
   repeat refine nx ?_
   refine rtU [] (hu := ?_)
   exact ⟨⟨.inr ⟨rfl, .inl ⟨_, rfl⟩⟩, .inr ⟨rfl, .inl ⟨_, rfl⟩⟩, .inr ⟨rfl, .inl ⟨_, rfl⟩⟩, .inr ⟨rfl, .inl ⟨_, rfl⟩⟩, trivial⟩, .inl rfl, trivial⟩
theorem readZ_le (l : List Int) (p : Nat) (hp : p ≤ l.length) : p ≤ (readZ l p).2.2 ∧ (readZ l p).2.2 ≤ l.length := by
 have h := openP_le l p (ofT 16) hp
 unfold readZ
 dsimp only
 split
 · split
   · split
     · exact ⟨Nat.le_refl _, hp⟩
     · exact h
   · exact ⟨Nat.le_refl _, hp⟩
 · exact ⟨Nat.le_refl _, hp⟩
set_option maxHeartbeats 4000000 in
theorem sparse_ok (l : List Int) (hl : l.length ≤ 100000) (hw : WfB l) : Ct Tryz.prog 47 [B8 l] [] (.tup [sealA (parseZ l).1.1 (parseZ l).1.2.1 (parseZ l).1.2.2.1 (parseZ l).1.2.2.2, lv (.int .i64 (parseZ l).2)]) [] [] := by
 have hcn := curnew_ok l (by omega)
 have h1 := sread_ok l 0 (Nat.zero_le _) hl hw
 have l1 := readZ_le l 0 (Nat.zero_le _)
 unfold parseZ
 generalize readZ l 0 = A at *
 obtain ⟨⟨t, o, m, s⟩, f, q2⟩ := A
 dsimp only at *
 have hlf := left_ok l q2 l1.2 (by omega)
 by_cases hf : f = 0
 · subst hf
   rw [if_pos rfl]
   by_cases hm : q2 < l.length
   · rw [if_pos hm]
     refine Ct_intro Tryz.func47 rfl rfl rfl rfl rfl (fun E hn hb => ?_)
     repeat refine nx ?_
     refine rtU [] (hu := ?_)
     exact ⟨⟨.inr ⟨rfl, .inl ⟨_, rfl⟩⟩, .inr ⟨rfl, .inl ⟨_, rfl⟩⟩, .inr ⟨rfl, .inl ⟨_, rfl⟩⟩, .inr ⟨rfl, .inl ⟨_, rfl⟩⟩, trivial⟩, .inl rfl, trivial⟩
   · rw [if_neg hm]
     refine Ct_intro Tryz.func47 rfl rfl rfl rfl rfl (fun E hn hb => ?_)
     repeat refine nx ?_
     exact rt1 []
 · rw [if_neg hf]
   refine Ct_intro Tryz.func47 rfl rfl rfl rfl rfl (fun E hn hb => ?_)
   repeat refine nx ?_
   refine rtU [] (hu := ?_)
   exact ⟨⟨.inr ⟨rfl, .inl ⟨_, rfl⟩⟩, .inr ⟨rfl, .inl ⟨_, rfl⟩⟩, .inr ⟨rfl, .inl ⟨_, rfl⟩⟩, .inr ⟨rfl, .inl ⟨_, rfl⟩⟩, trivial⟩, .inl rfl, trivial⟩

theorem sof_ok (t o m s : List Int) : Ct Tryz.prog 38 [sealA t o m s] [] (sealA t o m s) [] [] := by
 have h := ofalg_ok o m
 refine Ct_intro Tryz.func38 rfl rfl rfl rfl rfl (fun E hn hb => ?_)
 repeat refine nx ?_
 exact rt1 []

theorem arcT_wf : ∀ (k n : Nat), WfB (arcT k n)
 | 0, n => fun x hx => by simp [arcT] at hx
 | k + 1, n => fun x hx => by
   unfold arcT at hx
   split at hx
   · cases hx
   · rcases List.mem_cons.1 hx with rfl | hx
     · omega
     · exact arcT_wf k (n / 128) x hx
theorem arcL_wf (n : Nat) : WfB (arcL n) := fun x hx => by
 unfold arcL at hx
 rw [List.mem_reverse] at hx
 rcases List.mem_cons.1 hx with rfl | hx
 · omega
 · exact arcT_wf 5 _ x hx
theorem arcsL_wf (l : List Int) : WfB (arcsL l) := fun x hx => by
 unfold arcsL at hx
 obtain ⟨y, _, hy⟩ := List.mem_flatMap.1 hx
 exact arcL_wf _ x hy
theorem wrG_wf (o : List Int) {m : List Int} (hw : WfB m) : WfB (wrapL (ofT 16) (wrapL (ofT 6) (arcsL (numsL o)) ++ m)) :=
 wrap_wf _ _ (by decide) (wf_app (wrap_wf _ _ (by decide) (arcsL_wf _)) hw)

abbrev bnilC : Cell := .lf (.v (.slice none 0 0))
abbrev shC (t : TagP) (b a : Cell) (e : Int) : Blk := .cells [i64c t.1, i64c t.2.1, .lf (.v (.bool t.2.2)), .lf (.v (.bool false)), b, a, i64c e]
abbrev sh0 : Blk := shC tag0 bnilC bnilC 0
abbrev r8 (l : List Int) : Blk := .row (.ints .u8 l)
theorem bnew_ok : Ct Tryz.prog 104 [] [] (.c (.ptr 0 0)) [] [sh0] := by
 refine Ct_intro Tryz.func104 rfl rfl rfl rfl rfl (fun E hn hb => ?_)
 repeat refine nx ?_
 exact rt1 [66]

abbrev shZ (b : Cell) : Blk := shC tag0 b bnilC 0
theorem zoff_ok (l : List Int) : Ct Tryz.prog 139 [.c (.ptr 0 0)] [shZ (.own 1 1 0 l.length), r8 l] (lv (.bool false)) [shZ (.own 1 1 0 l.length), r8 l] [] := by
 refine Ct_intro Tryz.func139 rfl rfl rfl rfl rfl (fun E hn hb => ?_)
 repeat refine nx ?_
 exact rt1 []
theorem zadd_ok (l x : List Int) (hl : l.length + x.length ≤ 1000000) :
   CtM Tryz.prog 140 [.c (.ptr 0 0), B8 x] [shZ (.own 1 1 0 l.length), r8 l] (.tup []) [shZ (.own 2 1 0 (l ++ x).length), .gone] [r8 (l ++ x)] := by
 have e0 : l.take (0 + l.length) = l := by simp
 refine CtM_intro Tryz.func140 rfl rfl rfl rfl rfl (fun E hn hb => ?_)
 repeat refine nx ?_
 refine s_appendK 900 rfl rfl rfl rfl rfl (by rw [hn]; rfl) (elt_mk Tryz.underlying23 rfl rfl) rfl rfl rfl rfl ?_ (by simp) ⟨by omega, by decide⟩ ?_ ?_
 · trivial
 · rw [e0]
   repeat refine nx ?_
   rw [← List.length_append]
   exact N_endM [1] rfl (by trivial) ⟨rfl, ⟨.inr rfl, .inl rfl⟩, rfl, rfl⟩ hb rfl
 · rw [e0, List.drop_zero]
   repeat refine nx ?_
   rw [← List.length_append]
   exact N_endM [900] rfl (by trivial) ⟨rfl, ⟨.inr rfl, .inl rfl⟩, rfl, rfl⟩ hb rfl
theorem zput_ok (l x : List Int) (hl : l.length + x.length ≤ 1000000) :
   CtM Tryz.prog 105 [.c (.ptr 0 0), rowsA [x]] [shZ (.own 1 1 0 l.length), r8 l] (.tup []) [shZ (.own 2 1 0 (l ++ x).length), .gone] [r8 (l ++ x)] := by
 have h := zoff_ok l
 have ha := zadd_ok l x hl
 refine CtM_intro Tryz.func105 rfl rfl rfl rfl rfl (fun E hn hb => ?_)
 repeat refine nx ?_
 refine W_weaken (St.le_of (l := [(0, .c (.ptr 0 0)), (8, rowsA [x]), (9, lv (.int .i64 1)), (10, lv (.int .i64 0))]) (h := [(0, shZ (.own 1 1 0 l.length)), (1, r8 l)]) (by refine ⟨?_, ?_⟩ <;> (repeat' (first | exact trivial | exact rfl | refine ⟨?_, ?_⟩)) <;> first | exact rfl | (simp; done) | skip)) ?_
 refine W_loop (ι := Bool) (fun i => match i with
   | false => St.of [(0, .c (.ptr 0 0)), (8, rowsA [x]), (9, lv (.int .i64 1)), (10, lv (.int .i64 0))] [(0, shZ (.own 1 1 0 l.length)), (1, r8 l)]
   | true => St.of [(8, rowsA [x]), (9, lv (.int .i64 1)), (10, lv (.int .i64 1))] [(0, shZ (.own 82 1 0 (l ++ x).length)), (82, r8 (l ++ x))]) (fun i => match i with | false => 1 | true => 0) (fun i => ?_) false
 cases i with
 | false =>
   dsimp only
   repeat refine nx ?_
   refine s_callM [0, 1] ha rfl rfl (by rw [hn]; rfl) rfl rfl (by trivial) ⟨rfl, ⟨rfl, rfl⟩, (by simp [ordL]), rfl⟩ ?_
   repeat refine nx ?_
   refine N_round true (by decide) (St.le_of ⟨⟨rfl, rfl, rfl⟩, ⟨rfl, rfl⟩⟩)
 | true =>
   dsimp only
   repeat refine nx ?_
   exact N_retM [82] rfl (by trivial) ⟨rfl, ⟨.inr rfl, .inl rfl⟩, rfl, rfl⟩ hb rfl
theorem zfail_ok (l : List Int) : Ct Tryz.prog 106 [.c (.ptr 0 0), lv (.int .i64 0)] [shZ (.own 1 1 0 l.length), r8 l] (.tup []) [shZ (.own 1 1 0 l.length), r8 l] [] := by
 have h := zoff_ok l
 refine Ct_intro Tryz.func106 rfl rfl rfl rfl rfl (fun E hn hb => ?_)
 repeat refine nx ?_
 exact rt1 []
theorem zbytes_ok (l : List Int) (hl : l.length ≤ 1000000) : Ct Tryz.prog 107 [.c (.ptr 0 0)] [shZ (.lf (.ints .u8 l))] (.tup [B8 l, lv (.int .i64 0)]) [shZ (.lf (.ints .u8 l))] [] := by
 have h := clone_ok l hl
 refine Ct_intro Tryz.func107 rfl rfl rfl rfl rfl (fun E hn hb => ?_)
 repeat refine nx ?_
 exact rt1 []
def sglB (x : List Int) : Bool := decide ((wholesP x 0).2 = 0) && decide ((wholesP x 0).1.length = 1)
def rightZ (t o m : List Int) : Bool := sglB t && rightG o m
theorem single_ok (x : List Int) (hl : x.length ≤ 100000) (hw : WfB x) : Ct Tryz.prog 87 [B8 x] [] (lv (.bool (sglB x))) [] [] := by
 have hcn := curnew_ok x (by omega)
 have hwh := wholes_ok x 0 (Nat.zero_le _) hl hw
 unfold sglB
 generalize wholesP x 0 = W at *
 obtain ⟨rs, e⟩ := W
 dsimp only at *
 by_cases he : e = 0
 · subst he
   rw [if_pos rfl] at hwh
   refine Ct_intro Tryz.func87 rfl rfl rfl rfl rfl (fun E hn hb => ?_)
   repeat refine nx ?_
   refine rt2 [] (congrArg (fun x => lv (.bool x)) ?_) trivial
   have h1 : ((rs.length : Int) == 1) = decide (rs.length = 1) := by rw [Bool.eq_iff_iff]; simp; omega
   simp [h1]
 · rw [if_neg he] at hwh
   rw [decide_eq_false he]
   refine Ct_intro Tryz.func87 rfl rfl rfl rfl rfl (fun E hn hb => ?_)
   repeat refine nx ?_
   refine rt2 [] (congrArg (fun x => lv (.bool x)) ?_) trivial
   simp [he]
theorem sright_ok (t o m s : List Int) (ht : t.length ≤ 100000) (hwt : WfB t) (ho : o.length ≤ 1000000) (hm : m.length ≤ 100000) (hw : WfB m) : Ct Tryz.prog 54 [sealA t o m s] [] (lv (.bool (rightZ t o m))) [] [] := by
 have h1 := single_ok t ht hwt
 have h2 := rightalg_ok o m ho hm hw
 unfold rightZ
 generalize sglB t = S at *
 generalize rightG o m = G at *
 refine Ct_intro Tryz.func54 rfl rfl rfl rfl rfl (fun E hn hb => ?_)
 repeat refine nx ?_
 refine rt2 [] (congrArg (fun x => lv (.bool x)) ?_) trivial
 cases S <;> rfl
def wrPZ (t o m s : List Int) : List Int := t ++ wrapL (ofT 16) (wrapL (ofT 6) (arcsL (numsL o)) ++ m) ++ wrapL (ofT 3) (0 :: s)
theorem wrPZ_len {t o m s : List Int} (h : rightG o m = true) : (wrPZ t o m s).length ≤ t.length + m.length + s.length + 300 := by
 have hl := whole_len (rightG_o h)
 have l2 := wrap_len (ofT 16) (wrapL (ofT 6) (arcsL (numsL o)) ++ m)
 have l3 := wrap_len (ofT 3) (0 :: s)
 unfold wrPZ
 simp only [List.length_append, List.length_cons] at *
 omega
set_option maxHeartbeats 16000000 in
theorem swparts_ok (t o m s : List Int) (ht : t.length ≤ 100000) (hwt : WfB t) (ho : o.length ≤ 1000000) (hm : m.length ≤ 100000) (hw : WfB m) (hs : s.length ≤ 100000) (hws : WfB s) :
   Ct Tryz.prog 53 [sealA t o m s] [] (.tup [B8 (if rightZ t o m = true then wrPZ t o m s else []), lv (.int .i64 (if rightZ t o m = true then 0 else 1))]) [] [] := by
 have h1 := sright_ok t o m s ht hwt ho hm hw
 cases hr : rightZ t o m with
 | false =>
   rw [hr] at h1
   rw [if_neg (by simp), if_neg (by simp)]
   refine Ct_intro Tryz.func53 rfl rfl rfl rfl rfl (fun E hn hb => ?_)
   repeat refine nx ?_
   exact rtU []
 | true =>
   rw [hr] at h1
   rw [if_pos rfl, if_pos rfl]
   have hg : rightG o m = true := by unfold rightZ at hr; simp at hr; exact hr.2
   have hlen := wrPZ_len (t := t) (s := s) hg
   have h2 := wralg_ok o m ho hm hw
   have h3 := bwrite_ok 0 s hs hws
   unfold wrG at h2
   rw [if_pos hg] at h2
   unfold wrS at h3
   rw [if_pos (rightS_zero s)] at h3
   have hl := whole_len (rightG_o hg)
   have l2 := wrap_len (ofT 16) (wrapL (ofT 6) (arcsL (numsL o)) ++ m)
   have l3 := wrap_len (ofT 3) (0 :: s)
   simp only [List.length_append, List.length_cons] at l2 l3
   unfold wrPZ at hlen ⊢
   generalize wrapL (ofT 16) (wrapL (ofT 6) (arcsL (numsL o)) ++ m) = A at *
   generalize wrapL (ofT 3) (0 :: s) = B at *
   dsimp only at h2 h3
   have p0 := bnew_ok
   have p1 := zput_ok [] t (by simp; omega)
   have p2 := zput_ok t A (by omega)
   have p3 := zput_ok (t ++ A) B (by rw [List.length_append]; omega)
   rw [List.nil_append] at p1
   have pb := zbytes_ok (t ++ A ++ B) (by simp only [List.length_append]; omega)
   refine Ct_intro Tryz.func53 rfl rfl rfl rfl rfl (fun E hn hb => ?_)
   repeat refine nx ?_
   refine WL_sr (fun a w h => SR.cell_nil 76 4 900 rfl rfl rfl rfl rfl h) ?_
   refine s_callM [76, 900] p1 rfl rfl (by rw [hn]; rfl) rfl rfl (by trivial) ⟨rfl, ⟨rfl, rfl⟩, (by simp [ordL]), rfl⟩ ?_
   have f1 := zfail_ok t
   repeat refine nx ?_
   refine s_callM [76, 81] p2 rfl rfl (by rw [hn]; rfl) rfl rfl (by trivial) ⟨rfl, ⟨rfl, rfl⟩, (by simp [ordL]), rfl⟩ ?_
   clear f1
   have f2 := zfail_ok (t ++ A)
   repeat refine nx ?_
   refine s_callM [76, 94] p3 rfl rfl (by rw [hn]; rfl) rfl rfl (by trivial) ⟨rfl, ⟨rfl, rfl⟩, (by simp [ordL]), rfl⟩ ?_
   repeat refine nx ?_
   refine frcL 108 76 ?_
   repeat refine nx ?_
   exact rt1 []
theorem swrite_ok (t o m s : List Int) (ht : t.length ≤ 100000) (hwt : WfB t) (ho : o.length ≤ 1000000) (hm : m.length ≤ 100000) (hw : WfB m) (hs : s.length ≤ 100000) (hws : WfB s) :
   Ct Tryz.prog 52 [sealA t o m s] [] (.tup [B8 (if rightZ t o m = true then wrapL (ofT 16) (wrPZ t o m s) else []), lv (.int .i64 (if rightZ t o m = true then 0 else 1))]) [] [] := by
 have h1 := swparts_ok t o m s ht hwt ho hm hw hs hws
 cases hr : rightZ t o m with
 | false =>
   rw [hr, if_neg (by simp), if_neg (by simp)] at h1
   rw [if_neg (by simp), if_neg (by simp)]
   refine Ct_intro Tryz.func52 rfl rfl rfl rfl rfl (fun E hn hb => ?_)
   repeat refine nx ?_
   exact rtU []
 | true =>
   rw [hr, if_pos rfl, if_pos rfl] at h1
   rw [if_pos rfl, if_pos rfl]
   have hg : rightG o m = true := by unfold rightZ at hr; simp at hr; exact hr.2
   have hlen := wrPZ_len (t := t) (s := s) hg
   have h2 := sequence_ok [wrPZ t o m s] (by simp) (by simp; omega)
   rw [show [wrPZ t o m s].flatten = wrPZ t o m s by simp] at h2
   generalize wrPZ t o m s = X at *
   refine Ct_intro Tryz.func52 rfl rfl rfl rfl rfl (fun E hn hb => ?_)
   repeat refine nx ?_
   exact rt1 []
end Go.Proofs.YthoaneleeabadaaGreat

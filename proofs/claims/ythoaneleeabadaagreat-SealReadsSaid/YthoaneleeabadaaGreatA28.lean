/-
  A sheet without frames; sealed things as parts and as wholes; what is right. The conditions: rows of bytes that a machine can hold.
-/
import Derived.Test.YthoaneleeabadaaGreatSxJ
import Derived.Test.YthoaneleeabadaaGreatA24
import Derived.Test.YthoaneleeabadaaGreatA18
import Derived.Test.YthoaneleeabadaaGreatM1
namespace Go.Proofs.YthoaneleeabadaaGreat
set_option linter.unusedSimpArgs false
set_option linter.unusedVariables false
open Go.Sx
set_option maxRecDepth 10000
theorem bitR_of (l : List Int) (p : Nat) : (bitR l p).2.2.2 = (rbitR l p).2.2 ∧ ((bitR l p).2.2.2 = 0 → (rbitR l p).1 = (bitR l p).1 :: (bitR l p).2.1 ∧ (rbitR l p).2.1 = (bitR l p).2.2.1) := by
 unfold bitR rbitR
 generalize openP l p (ofT 3) = X
 obtain ⟨x, q, e⟩ := X
 dsimp only
 by_cases he : e = 0
 · rw [if_pos he, if_pos he]
   by_cases hs : (parS x).2.2 = true
   · rw [if_pos hs, if_pos hs]
     refine ⟨rfl, fun _ => ⟨?_, rfl⟩⟩
     unfold parS at hs ⊢
     match x, hs with
     | u :: m, hs =>
       dsimp only at hs ⊢
       by_cases hr : rightS u m = true
       · rw [if_pos hr]
       · rw [if_neg hr] at hs; cases hs
   · rw [if_neg hs, if_neg hs]
     exact ⟨rfl, fun h => by cases h⟩
 · rw [if_neg he, if_neg he]
   exact ⟨rfl, fun h => absurd h he⟩
set_option maxHeartbeats 16000000 in
theorem rparts_ok (l : List Int) (p : Nat) (hp : p ≤ l.length) (hl : l.length ≤ 100000) (hw : WfB l) : Ct Tryz.prog 44 [B8 l, lv (.int .i64 (p : Int))] [] (.tup [sealA (partsZ l p).1.1 (partsZ l p).1.2.1 (partsZ l p).1.2.2.1 (partsZ l p).1.2.2.2, lv (.int .i64 ((partsZ l p).2.2 : Int)), lv (.int .i64 (partsZ l p).2.1)]) [] [] := by
 have hr := refread_ok l p hp (by omega) hw
 have hle := readP_le l p hp
 have hpos := readP_pos l p hw
 unfold partsZ parZ texP
 generalize readP l p = R at *
 obtain ⟨⟨⟨t1, t2, t3⟩, n⟩, q, e⟩ := R
 dsimp only at *
 by_cases he : e = 0
 · subst he
   rw [if_pos rfl]
   obtain ⟨N, rfl⟩ : ∃ N : Nat, n = N := ⟨n.toNat, by omega⟩
   rw [Int.toNat_natCast]
   by_cases hN : (l.length : Int) - q < N
   · rw [if_pos hN]
     simp only [reduceIte, Int.reduceEq]
     refine Ct_intro Tryz.func44 rfl rfl rfl rfl rfl (fun E hn hb => ?_)
     repeat refine nx ?_
     refine rtU [] (hu := ?_)
     exact ⟨⟨.inr ⟨rfl, .inl ⟨_, rfl⟩⟩, .inr ⟨rfl, .inl ⟨_, rfl⟩⟩, .inr ⟨rfl, .inl ⟨_, rfl⟩⟩, .inr ⟨rfl, .inl ⟨_, rfl⟩⟩, trivial⟩, .inl rfl, .inl rfl, trivial⟩
   · rw [if_neg hN]
     dsimp only
     rw [if_pos rfl]
     have hra := rreadalg_ok l (q + N) (by omega) (by omega) hw
     rw [show ((q + N : Nat) : Int) = (q : Int) + (N : Int) by omega] at hra
     have l2 := algR_le l (q + N) (by omega)
     generalize algR l (q + N) = A at *
     obtain ⟨o, m, f, q2⟩ := A
     dsimp only at *
     by_cases hf : f = 0
     · subst hf
       rw [if_pos rfl]
       have hrb := rbread_ok l q2 l2.2 (by omega) hw
       have hof := bitR_of l q2
       have hle2 := bitR_le l q2 l2.2
       unfold selP
       generalize bitR l q2 = B at *
       generalize rbitR l q2 = C at *
       obtain ⟨u, s, q3, g⟩ := B
       obtain ⟨y, q4, g'⟩ := C
       dsimp only at *
       obtain ⟨rfl, hof⟩ := hof
       by_cases hg : g = 0
       · subst hg
         rw [if_pos rfl]
         obtain ⟨rfl, rfl⟩ := hof rfl
         by_cases hu : u = 0
         · subst hu
           rw [if_pos rfl]
           dsimp only
           rw [if_pos rfl, if_pos rfl]
           have hcut : (l.take ((q : Int) + (N : Int)).toNat).drop (p : Int).toNat = (l.drop p).take (q - p + N) := by
             rw [show ((q : Int) + (N : Int)).toNat = q + N by omega, Int.toNat_natCast, List.drop_take, show q + N - p = q - p + N by omega]
           rw [← hcut]
           refine Ct_intro Tryz.func44 rfl rfl rfl rfl rfl (fun E hn hb => ?_)
           repeat refine nx ?_
           exact rt1 []
         · rw [if_neg hu]
           simp only [reduceIte, Int.reduceEq]
           refine Ct_intro Tryz.func44 rfl rfl rfl rfl rfl (fun E hn hb => ?_)
           repeat refine nx ?_
           refine rtU [] (hu := ?_)
           exact ⟨⟨.inr ⟨rfl, .inl ⟨_, rfl⟩⟩, .inr ⟨rfl, .inl ⟨_, rfl⟩⟩, .inr ⟨rfl, .inl ⟨_, rfl⟩⟩, .inr ⟨rfl, .inl ⟨_, rfl⟩⟩, trivial⟩, .inl rfl, .inl rfl, trivial⟩
       · rw [if_neg hg]
         dsimp only
         rw [if_neg hg, if_neg hg]
         refine Ct_intro Tryz.func44 rfl rfl rfl rfl rfl (fun E hn hb => ?_)
         repeat refine nx ?_
         refine rtU [] (hu := ?_)
         exact ⟨⟨.inr ⟨rfl, .inl ⟨_, rfl⟩⟩, .inr ⟨rfl, .inl ⟨_, rfl⟩⟩, .inr ⟨rfl, .inl ⟨_, rfl⟩⟩, .inr ⟨rfl, .inl ⟨_, rfl⟩⟩, trivial⟩, .inl rfl, .inl rfl, trivial⟩
     · rw [if_neg hf]
       dsimp only
       rw [if_neg hf]
       refine Ct_intro Tryz.func44 rfl rfl rfl rfl rfl (fun E hn hb => ?_)
       repeat refine nx ?_
       refine rtU [] (hu := ?_)
       exact ⟨⟨.inr ⟨rfl, .inl ⟨_, rfl⟩⟩, .inr ⟨rfl, .inl ⟨_, rfl⟩⟩, .inr ⟨rfl, .inl ⟨_, rfl⟩⟩, .inr ⟨rfl, .inl ⟨_, rfl⟩⟩, trivial⟩, .inl rfl, .inl rfl, trivial⟩
 · rw [if_neg he]
   dsimp only
   rw [if_neg he]
   dsimp only
   rw [if_neg he]
   refine Ct_intro Tryz.func44 rfl rfl rfl rfl rfl (fun E hn hb => ?_)
   repeat refine nx ?_
   refine rtU [] (hu := ?_)
   exact ⟨⟨.inr ⟨rfl, .inl ⟨_, rfl⟩⟩, .inr ⟨rfl, .inl ⟨_, rfl⟩⟩, .inr ⟨rfl, .inl ⟨_, rfl⟩⟩, .inr ⟨rfl, .inl ⟨_, rfl⟩⟩, trivial⟩, .inl rfl, .inl rfl, trivial⟩
theorem partsZ_le (l : List Int) (p : Nat) (hp : p ≤ l.length) (hw : WfB l) : p ≤ (partsZ l p).2.2 ∧ (partsZ l p).2.2 ≤ l.length := by
 have h1 := parZ_le l p hp hw
 have h2 := parZ_ge l p hp hw
 unfold partsZ
 dsimp only
 split
 · exact ⟨h2, h1⟩
 · exact ⟨Nat.le_refl _, hp⟩
set_option maxHeartbeats 8000000 in
theorem rsread_ok (l : List Int) (p : Nat) (hp : p ≤ l.length) (hl : l.length ≤ 100000) (hw : WfB l) : Ct Tryz.prog 46 [B8 l, lv (.int .i64 (p : Int))] [] (.tup [sealA (readZ l p).1.1 (readZ l p).1.2.1 (readZ l p).1.2.2.1 (readZ l p).1.2.2.2, lv (.int .i64 ((readZ l p).2.2 : Int)), lv (.int .i64 (readZ l p).2.1)]) [] [] := by
 have hof := refoft_ok 16
 have hop := refopen_ok l p (ofT 16) hp (by omega) hw
 have hmem := openP_mem l p (ofT 16)
 unfold readZ
 generalize openP l p (ofT 16) = X at *
 obtain ⟨x, q, e⟩ := X
 dsimp only at *
 by_cases he : e = 0
 · subst he
   rw [if_pos rfl]
   have hxw : WfB x := fun y hy => hw y (hmem.2 y hy)
   have h1 := rparts_ok x 0 (Nat.zero_le _) (by omega) hxw
   unfold partsZ at h1
   generalize parZ x 0 = A at *
   obtain ⟨⟨t, o, m, s⟩, f, q2⟩ := A
   dsimp only at *
   by_cases hf : f = 0
   · subst hf
     rw [if_pos rfl] at h1 ⊢
     by_cases hm : q2 < x.length
     · rw [if_pos hm]
       refine Ct_intro Tryz.func46 rfl rfl rfl rfl rfl (fun E hn hb => ?_)
       repeat refine nx ?_
       refine rtU [] (hu := ?_)
       exact ⟨⟨.inr ⟨rfl, .inl ⟨_, rfl⟩⟩, .inr ⟨rfl, .inl ⟨_, rfl⟩⟩, .inr ⟨rfl, .inl ⟨_, rfl⟩⟩, .inr ⟨rfl, .inl ⟨_, rfl⟩⟩, trivial⟩, .inl rfl, .inl rfl, trivial⟩
     · rw [if_neg hm]
       refine Ct_intro Tryz.func46 rfl rfl rfl rfl rfl (fun E hn hb => ?_)
       repeat refine nx ?_
       exact rt1 []
   · rw [if_neg hf] at h1 ⊢
     refine Ct_intro Tryz.func46 rfl rfl rfl rfl rfl (fun E hn hb => ?_)
     repeat refine nx ?_
     refine rtU [] (hu := ?_)
     exact ⟨⟨.inr ⟨rfl, .inl ⟨_, rfl⟩⟩, .inr ⟨rfl, .inl ⟨_, rfl⟩⟩, .inr ⟨rfl, .inl ⟨_, rfl⟩⟩, .inr ⟨rfl, .inl ⟨_, rfl⟩⟩, trivial⟩, .inl rfl, .inl rfl, trivial⟩
 · rw [if_neg he]
   refine Ct_intro Tryz.func46 rfl rfl rfl rfl rfl (fun E hn hb => ?_)
   repeat refine nx ?_
   refine rtU [] (hu := ?_)
   exact ⟨⟨.inr ⟨rfl, .inl ⟨_, rfl⟩⟩, .inr ⟨rfl, .inl ⟨_, rfl⟩⟩, .inr ⟨rfl, .inl ⟨_, rfl⟩⟩, .inr ⟨rfl, .inl ⟨_, rfl⟩⟩, trivial⟩, .inl rfl, .inl rfl, trivial⟩
set_option maxHeartbeats 4000000 in
theorem rsparse_ok (l : List Int) (hl : l.length ≤ 100000) (hw : WfB l) : Ct Tryz.prog 48 [B8 l] [] (.tup [sealA (parseZ l).1.1 (parseZ l).1.2.1 (parseZ l).1.2.2.1 (parseZ l).1.2.2.2, lv (.int .i64 (parseZ l).2)]) [] [] := by
 have h1 := rsread_ok l 0 (Nat.zero_le _) hl hw
 unfold parseZ
 generalize readZ l 0 = A at *
 obtain ⟨⟨t, o, m, s⟩, f, q2⟩ := A
 dsimp only at *
 by_cases hf : f = 0
 · subst hf
   rw [if_pos rfl]
   by_cases hm : q2 < l.length
   · rw [if_pos hm]
     refine Ct_intro Tryz.func48 rfl rfl rfl rfl rfl (fun E hn hb => ?_)
     repeat refine nx ?_
     refine rtU [] (hu := ?_)
     exact ⟨⟨.inr ⟨rfl, .inl ⟨_, rfl⟩⟩, .inr ⟨rfl, .inl ⟨_, rfl⟩⟩, .inr ⟨rfl, .inl ⟨_, rfl⟩⟩, .inr ⟨rfl, .inl ⟨_, rfl⟩⟩, trivial⟩, .inl rfl, trivial⟩
   · rw [if_neg hm]
     refine Ct_intro Tryz.func48 rfl rfl rfl rfl rfl (fun E hn hb => ?_)
     repeat refine nx ?_
     exact rt1 []
 · rw [if_neg hf]
   refine Ct_intro Tryz.func48 rfl rfl rfl rfl rfl (fun E hn hb => ?_)
   repeat refine nx ?_
   refine rtU [] (hu := ?_)
   exact ⟨⟨.inr ⟨rfl, .inl ⟨_, rfl⟩⟩, .inr ⟨rfl, .inl ⟨_, rfl⟩⟩, .inr ⟨rfl, .inl ⟨_, rfl⟩⟩, .inr ⟨rfl, .inl ⟨_, rfl⟩⟩, trivial⟩, .inl rfl, trivial⟩
theorem sof_ok (t o m s : List Int) : Ct Tryz.prog 38 [sealA t o m s] [] (sealA t o m s) [] [] := by
 have h := ofalg_ok o m
 refine Ct_intro Tryz.func38 rfl rfl rfl rfl rfl (fun E hn hb => ?_)
 repeat refine nx ?_
 exact rt1 []
theorem slike_ok (t o m s : List Int) (ht : t.length ≤ 1000000) (ho : o.length ≤ 1000000) (hm : m.length ≤ 1000000) (hs : s.length ≤ 1000000) : Ct Tryz.prog 37 [sealA t o m s, sealA t o m s] [] (lv (.bool true)) [] [] := by
 have h1 := likealg_ok o m ho hm
 have h2 := same_ok t t ht ht
 have h3 := same_ok s s hs hs
 rw [decide_eq_true rfl] at h2 h3
 refine Ct_intro Tryz.func37 rfl rfl rfl rfl rfl (fun E hn hb => ?_)
 repeat refine nx ?_
 refine rt2 [] (congrArg (fun x => lv (.bool x)) ?_) trivial; (simp [eqCs, Cell.kill, Cell.kill1])
theorem readZ_len (l : List Int) (p : Nat) (hw : WfB l) : (readZ l p).1.1.length ≤ l.length ∧ (readZ l p).1.2.1.length ≤ 32 ∧ (readZ l p).1.2.2.1.length ≤ l.length ∧ (readZ l p).1.2.2.2.length ≤ l.length := by
 have hm := openP_mem l p (ofT 16)
 have h := parZ_len (openP l p (ofT 16)).1 0 (Nat.zero_le _) (fun y hy => hw y (hm.2 y hy))
 unfold readZ
 dsimp only
 split
 · split
   · split
     · simp
     · dsimp only; omega
   · simp
 · simp
theorem parseZ_len (l : List Int) (hw : WfB l) : (parseZ l).1.1.length ≤ l.length ∧ (parseZ l).1.2.1.length ≤ 32 ∧ (parseZ l).1.2.2.1.length ≤ l.length ∧ (parseZ l).1.2.2.2.length ≤ l.length := by
 have h := readZ_len l 0 hw
 unfold parseZ
 dsimp only
 split
 · split
   · simp
   · exact h
 · simp
def placeZ (l : List Int) : Int × Int := if (parseZ l).2 = 0 then (((readP l 0).2.1 : Int), ((readP l 0).2.1 : Int) + ((parseZ l).1.1.length : Int)) else (0, 0)
set_option maxHeartbeats 4000000 in
theorem place_ok (l : List Int) (hl : l.length ≤ 100000) (hw : WfB l) : Ct Tryz.prog 49 [B8 l] [] (.tup [.agg [.lf (.v (.int .i64 (placeZ l).1)), .lf (.v (.int .i64 (placeZ l).2))], lv (.int .i64 (parseZ l).2)]) [] [] := by
 have hcn := curnew_ok l (by omega)
 have h1 := sparse_ok l hl hw
 have hr := headread_ok l 0 (Nat.zero_le _) (by omega) hw
 have hle := readP_le l 0 (Nat.zero_le _)
 have hlen := parseZ_len l hw
 unfold placeZ
 generalize readP l 0 = R at *
 obtain ⟨⟨⟨t1, t2, t3⟩, n⟩, q, e⟩ := R
 generalize parseZ l = A at *
 obtain ⟨⟨t, o, m, s⟩, f⟩ := A
 dsimp only at *
 have hat := at_ok l q
 by_cases hf : f = 0
 · subst hf
   rw [if_pos rfl]
   refine Ct_intro Tryz.func49 rfl rfl rfl rfl rfl (fun E hn hb => ?_)
   repeat (first | refine nxm ?_ | refine dna2 ?_ | refine dea2 ?_ | refine dna1 ?_ | refine dea1 ?_ | refine ba1 ?_ | refine dba1 ?_)
   exact rt1 []
 · rw [if_neg hf]
   refine Ct_intro Tryz.func49 rfl rfl rfl rfl rfl (fun E hn hb => ?_)
   repeat (first | refine nxm ?_ | refine dna2 ?_ | refine dea2 ?_ | refine dna1 ?_ | refine dea1 ?_ | refine ba1 ?_ | refine dba1 ?_)
   exact rt1 []

set_option maxRecDepth 10000
theorem rwralgD_ok (o m : List Int) (hg : rightG o m = true) (hm : m.length ≤ 100000) : Ct Tryz.prog 29 [algA o m] [] (B8 (wrG o m).1) [] [] :=
 (rwralg_ok o m hg hm).freeze ⟨rfl, rfl, rfl, by simp, by rw [List.drop_zero, List.take_length]⟩ rfl
theorem arcT_wf : ∀ (k n : Nat), WfB (arcT k n)
 | 0, n => fun x hx => by simp [arcT] at hx
 | k + 1, n => fun x hx => by
   unfold arcT at hx
   split at hx
   · cases hx
   · rcases List.mem_cons.1 hx with rfl | hx
     · omega
     · exact arcT_wf k (n / 128) x hx
theorem arcL_wf (n : Nat) : WfB (arcL n) := fun x hx => by
 unfold arcL at hx
 rw [List.mem_reverse] at hx
 rcases List.mem_cons.1 hx with rfl | hx
 · omega
 · exact arcT_wf 5 _ x hx
theorem arcsL_wf (l : List Int) : WfB (arcsL l) := fun x hx => by
 unfold arcsL at hx
 obtain ⟨y, _, hy⟩ := List.mem_flatMap.1 hx
 exact arcL_wf _ x hy
theorem wrG_wf (o : List Int) {m : List Int} (hw : WfB m) : WfB (wrapL (ofT 16) (wrapL (ofT 6) (arcsL (numsL o)) ++ m)) :=
 wrap_wf _ _ (by decide) (wf_app (wrap_wf _ _ (by decide) (arcsL_wf _)) hw)
end Go.Proofs.YthoaneleeabadaaGreat

namespace Go.Proofs.YthoaneleeabadaaGreat
set_option linter.unusedSimpArgs false
set_option linter.unusedVariables false
open Go.Sx
set_option maxRecDepth 10000
abbrev bnilC : Cell := .lf (.v (.slice none 0 0))
abbrev shC (t : TagP) (b a : Cell) (e : Int) : Blk := .cells [i64c t.1, i64c t.2.1, .lf (.v (.bool t.2.2)), .lf (.v (.bool false)), b, a, i64c e]
abbrev sh0 : Blk := shC tag0 bnilC bnilC 0
abbrev r8 (l : List Int) : Blk := .row (.ints .u8 l)
theorem bnew_ok : Ct Tryz.prog 104 [] [] (.c (.ptr 0 0)) [] [sh0] := by
 refine Ct_intro Tryz.func104 rfl rfl rfl rfl rfl (fun E hn hb => ?_)
 repeat refine nx ?_
 exact rt1 [66]

abbrev shZ (b : Cell) : Blk := shC tag0 b bnilC 0
theorem zoff_ok (l : List Int) : Ct Tryz.prog 139 [.c (.ptr 0 0)] [shZ (.own 1 1 0 l.length), r8 l] (lv (.bool false)) [shZ (.own 1 1 0 l.length), r8 l] [] := by
 refine Ct_intro Tryz.func139 rfl rfl rfl rfl rfl (fun E hn hb => ?_)
 repeat refine nx ?_
 exact rt1 []
theorem zadd_ok (l x : List Int) (hl : l.length + x.length ≤ 1000000) :
   CtM Tryz.prog 140 [.c (.ptr 0 0), B8 x] [shZ (.own 1 1 0 l.length), r8 l] (.tup []) [shZ (.own 2 1 0 (l ++ x).length), .gone] [r8 (l ++ x)] := by
 have e0 : l.take (0 + l.length) = l := by simp
 refine CtM_intro Tryz.func140 rfl rfl rfl rfl rfl (fun E hn hb => ?_)
 repeat refine nx ?_
 refine s_appendK 900 rfl rfl rfl rfl rfl (by rw [hn]; rfl) (elt_mk Tryz.underlying23 rfl rfl) rfl rfl rfl rfl ?_ (by simp) ⟨by omega, by decide⟩ ?_ ?_
 · trivial
 · rw [e0]
   repeat refine nx ?_
   rw [← List.length_append]
   exact N_endM [1] rfl (by trivial) ⟨rfl, ⟨.inr rfl, .inl rfl⟩, rfl, rfl⟩ hb rfl
 · rw [e0, List.drop_zero]
   repeat refine nx ?_
   rw [← List.length_append]
   exact N_endM [900] rfl (by trivial) ⟨rfl, ⟨.inr rfl, .inl rfl⟩, rfl, rfl⟩ hb rfl
theorem zput_ok (l x : List Int) (hl : l.length + x.length ≤ 1000000) :
   CtM Tryz.prog 105 [.c (.ptr 0 0), rowsA [x]] [shZ (.own 1 1 0 l.length), r8 l] (.tup []) [shZ (.own 2 1 0 (l ++ x).length), .gone] [r8 (l ++ x)] := by
 have h := zoff_ok l
 have ha := zadd_ok l x hl
 refine CtM_intro Tryz.func105 rfl rfl rfl rfl rfl (fun E hn hb => ?_)
 repeat refine nx ?_
 refine W_weaken (St.le_of (l := [(0, .c (.ptr 0 0)), (8, rowsA [x]), (9, lv (.int .i64 1)), (10, lv (.int .i64 0))]) (h := [(0, shZ (.own 1 1 0 l.length)), (1, r8 l)]) (by refine ⟨?_, ?_⟩ <;> (repeat' (first | exact trivial | exact rfl | refine ⟨?_, ?_⟩)) <;> first | exact rfl | (simp; done) | skip)) ?_
 refine W_loop (ι := Bool) (fun i => match i with
   | false => St.of [(0, .c (.ptr 0 0)), (8, rowsA [x]), (9, lv (.int .i64 1)), (10, lv (.int .i64 0))] [(0, shZ (.own 1 1 0 l.length)), (1, r8 l)]
   | true => St.of [(8, rowsA [x]), (9, lv (.int .i64 1)), (10, lv (.int .i64 1))] [(0, shZ (.own 82 1 0 (l ++ x).length)), (82, r8 (l ++ x))]) (fun i => match i with | false => 1 | true => 0) (fun i => ?_) false
 cases i with
 | false =>
   dsimp only
   repeat refine nx ?_
   refine s_callM [0, 1] ha rfl rfl (by rw [hn]; rfl) rfl rfl (by trivial) ⟨rfl, ⟨rfl, rfl⟩, (by simp [ordL]), rfl⟩ ?_
   repeat refine nx ?_
   refine N_round true (by decide) (St.le_of ⟨⟨rfl, rfl, rfl⟩, ⟨rfl, rfl⟩⟩)
 | true =>
   dsimp only
   repeat refine nx ?_
   exact N_retM [82] rfl (by trivial) ⟨rfl, ⟨.inr rfl, .inl rfl⟩, rfl, rfl⟩ hb rfl
theorem zfail_ok (l : List Int) : Ct Tryz.prog 106 [.c (.ptr 0 0), lv (.int .i64 0)] [shZ (.own 1 1 0 l.length), r8 l] (.tup []) [shZ (.own 1 1 0 l.length), r8 l] [] := by
 have h := zoff_ok l
 refine Ct_intro Tryz.func106 rfl rfl rfl rfl rfl (fun E hn hb => ?_)
 repeat refine nx ?_
 exact rt1 []
theorem zbytes_ok (l : List Int) (hl : l.length ≤ 1000000) : Ct Tryz.prog 107 [.c (.ptr 0 0)] [shZ (.lf (.ints .u8 l))] (.tup [B8 l, lv (.int .i64 0)]) [shZ (.lf (.ints .u8 l))] [] := by
 have h := clone_ok l hl
 refine Ct_intro Tryz.func107 rfl rfl rfl rfl rfl (fun E hn hb => ?_)
 repeat refine nx ?_
 exact rt1 []
def sglB (x : List Int) : Bool := decide ((wholesP x 0).2 = 0) && decide ((wholesP x 0).1.length = 1)
def rightZ (t o m : List Int) : Bool := sglB t && rightG o m
theorem single_ok (x : List Int) (hl : x.length ≤ 100000) (hw : WfB x) : Ct Tryz.prog 87 [B8 x] [] (lv (.bool (sglB x))) [] [] := by
 have hcn := curnew_ok x (by omega)
 have hwh := wholes_ok x 0 (Nat.zero_le _) hl hw
 unfold sglB
 generalize wholesP x 0 = W at *
 obtain ⟨rs, e⟩ := W
 dsimp only at *
 by_cases he : e = 0
 · subst he
   rw [if_pos rfl] at hwh
   refine Ct_intro Tryz.func87 rfl rfl rfl rfl rfl (fun E hn hb => ?_)
   repeat refine nx ?_
   refine rt2 [] (congrArg (fun x => lv (.bool x)) ?_) trivial
   have h1 : ((rs.length : Int) == 1) = decide (rs.length = 1) := by rw [Bool.eq_iff_iff]; simp; omega
   simp [h1]
 · rw [if_neg he] at hwh
   rw [decide_eq_false he]
   refine Ct_intro Tryz.func87 rfl rfl rfl rfl rfl (fun E hn hb => ?_)
   repeat refine nx ?_
   refine rt2 [] (congrArg (fun x => lv (.bool x)) ?_) trivial
   simp [he]
theorem sright_ok (t o m s : List Int) (ht : t.length ≤ 100000) (hwt : WfB t) (ho : o.length ≤ 1000000) (hm : m.length ≤ 100000) (hw : WfB m) : Ct Tryz.prog 54 [sealA t o m s] [] (lv (.bool (rightZ t o m))) [] [] := by
 have h1 := single_ok t ht hwt
 have h2 := rightalg_ok o m ho hm hw
 unfold rightZ
 generalize sglB t = S at *
 generalize rightG o m = G at *
 refine Ct_intro Tryz.func54 rfl rfl rfl rfl rfl (fun E hn hb => ?_)
 repeat refine nx ?_
 refine rt2 [] (congrArg (fun x => lv (.bool x)) ?_) trivial
 cases S <;> rfl
def wrPZ (t o m s : List Int) : List Int := t ++ wrapL (ofT 16) (wrapL (ofT 6) (arcsL (numsL o)) ++ m) ++ wrapL (ofT 3) (0 :: s)
theorem wrPZ_len {t o m s : List Int} (h : rightG o m = true) : (wrPZ t o m s).length ≤ t.length + m.length + s.length + 300 := by
 have hl := whole_len (rightG_o h)
 have l2 := wrap_len (ofT 16) (wrapL (ofT 6) (arcsL (numsL o)) ++ m)
 have l3 := wrap_len (ofT 3) (0 :: s)
 unfold wrPZ
 simp only [List.length_append, List.length_cons] at *
 omega
set_option maxHeartbeats 16000000 in
theorem swparts_ok (t o m s : List Int) (ht : t.length ≤ 100000) (hwt : WfB t) (ho : o.length ≤ 1000000) (hm : m.length ≤ 100000) (hw : WfB m) (hs : s.length ≤ 100000) (hws : WfB s) :
   Ct Tryz.prog 53 [sealA t o m s] [] (.tup [B8 (if rightZ t o m = true then wrPZ t o m s else []), lv (.int .i64 (if rightZ t o m = true then 0 else 1))]) [] [] := by
 have h1 := sright_ok t o m s ht hwt ho hm hw
 cases hr : rightZ t o m with
 | false =>
   rw [hr] at h1
   rw [if_neg (by simp), if_neg (by simp)]
   refine Ct_intro Tryz.func53 rfl rfl rfl rfl rfl (fun E hn hb => ?_)
   repeat refine nx ?_
   exact rtU []
 | true =>
   rw [hr] at h1
   rw [if_pos rfl, if_pos rfl]
   have hg : rightG o m = true := by unfold rightZ at hr; simp at hr; exact hr.2
   have hlen := wrPZ_len (t := t) (s := s) hg
   have h2 := wralg_ok o m ho hm hw
   have h3 := bwrite_ok 0 s hs hws
   unfold wrG at h2
   rw [if_pos hg] at h2
   unfold wrS at h3
   rw [if_pos (rightS_zero s)] at h3
   have hl := whole_len (rightG_o hg)
   have l2 := wrap_len (ofT 16) (wrapL (ofT 6) (arcsL (numsL o)) ++ m)
   have l3 := wrap_len (ofT 3) (0 :: s)
   simp only [List.length_append, List.length_cons] at l2 l3
   unfold wrPZ at hlen ⊢
   generalize wrapL (ofT 16) (wrapL (ofT 6) (arcsL (numsL o)) ++ m) = A at *
   generalize wrapL (ofT 3) (0 :: s) = B at *
   dsimp only at h2 h3
   have p0 := bnew_ok
   have p1 := zput_ok [] t (by simp; omega)
   have p2 := zput_ok t A (by omega)
   have p3 := zput_ok (t ++ A) B (by rw [List.length_append]; omega)
   rw [List.nil_append] at p1
   have pb := zbytes_ok (t ++ A ++ B) (by simp only [List.length_append]; omega)
   refine Ct_intro Tryz.func53 rfl rfl rfl rfl rfl (fun E hn hb => ?_)
   repeat refine nx ?_
   refine WL_sr (fun a w h => SR.cell_nil 76 4 900 rfl rfl rfl rfl rfl h) ?_
   refine s_callM [76, 900] p1 rfl rfl (by rw [hn]; rfl) rfl rfl (by trivial) ⟨rfl, ⟨rfl, rfl⟩, (by simp [ordL]), rfl⟩ ?_
   have f1 := zfail_ok t
   repeat refine nx ?_
   refine s_callM [76, 81] p2 rfl rfl (by rw [hn]; rfl) rfl rfl (by trivial) ⟨rfl, ⟨rfl, rfl⟩, (by simp [ordL]), rfl⟩ ?_
   clear f1
   have f2 := zfail_ok (t ++ A)
   repeat refine nx ?_
   refine s_callM [76, 94] p3 rfl rfl (by rw [hn]; rfl) rfl rfl (by trivial) ⟨rfl, ⟨rfl, rfl⟩, (by simp [ordL]), rfl⟩ ?_
   repeat refine nx ?_
   refine frcL 108 76 ?_
   repeat refine nx ?_
   exact rt1 []
theorem swrite_ok (t o m s : List Int) (ht : t.length ≤ 100000) (hwt : WfB t) (ho : o.length ≤ 1000000) (hm : m.length ≤ 100000) (hw : WfB m) (hs : s.length ≤ 100000) (hws : WfB s) :
   Ct Tryz.prog 52 [sealA t o m s] [] (.tup [B8 (if rightZ t o m = true then wrapL (ofT 16) (wrPZ t o m s) else []), lv (.int .i64 (if rightZ t o m = true then 0 else 1))]) [] [] := by
 have h1 := swparts_ok t o m s ht hwt ho hm hw hs hws
 cases hr : rightZ t o m with
 | false =>
   rw [hr, if_neg (by simp), if_neg (by simp)] at h1
   rw [if_neg (by simp), if_neg (by simp)]
   refine Ct_intro Tryz.func52 rfl rfl rfl rfl rfl (fun E hn hb => ?_)
   repeat refine nx ?_
   exact rtU []
 | true =>
   rw [hr, if_pos rfl, if_pos rfl] at h1
   rw [if_pos rfl, if_pos rfl]
   have hg : rightG o m = true := by unfold rightZ at hr; simp at hr; exact hr.2
   have hlen := wrPZ_len (t := t) (s := s) hg
   have h2 := sequence_ok [wrPZ t o m s] (by simp) (by simp; omega)
   rw [show [wrPZ t o m s].flatten = wrPZ t o m s by simp] at h2
   generalize wrPZ t o m s = X at *
   refine Ct_intro Tryz.func52 rfl rfl rfl rfl rfl (fun E hn hb => ?_)
   repeat refine nx ?_
   exact rt1 []
theorem refcopyO_ok (l : List Int) (hl : l.length ≤ 1000000) : Ct Tryz.prog 103 [B8 l] [] (.c (.own 0 1 0 l.length)) [] [.row (.ints .u8 l)] := by
 refine Ct_intro Tryz.func103 rfl rfl rfl rfl rfl (fun E hn hb => ?_)
 repeat (first | refine lo1 ?_ | refine nx ?_)
 simp only [List.nil_append]
 exact rt1 [67]
set_option maxHeartbeats 8000000 in
theorem rswparts_ok (t o m s : List Int) (ht : t.length ≤ 100000) (hg : rightG o m = true) (hm : m.length ≤ 100000) (hs : s.length ≤ 100000) : Ct Tryz.prog 50 [sealA t o m s] [] (.c (.own 0 1 0 (wrPZ t o m s).length)) [] [.row (.ints .u8 (wrPZ t o m s))] := by
 have h1 := refcopyO_ok t (by omega)
 have h2 := rwralgD_ok o m hg hm
 have hl := whole_len (rightG_o hg)
 have l2 := wrap_len (ofT 16) (wrapL (ofT 6) (arcsL (numsL o)) ++ m)
 have l3 := wrap_len (ofT 3) (0 :: s)
 simp only [List.length_append, List.length_cons] at l2 l3
 have h3 := refoft_ok 3
 have h4 := refwrap_ok (ofT 3) (0 :: s) (by decide) (by simp; omega)
 unfold wrG at h2
 rw [if_pos hg] at h2
 unfold wrPZ
 rw [show (0 : Int) :: s = [0] ++ s by rfl] at *
 generalize wrapL (ofT 16) (wrapL (ofT 6) (arcsL (numsL o)) ++ m) = A at *
 generalize wrapL (ofT 3) ([0] ++ s) = B at *
 dsimp only at h2
 refine Ct_intro Tryz.func50 rfl rfl rfl rfl rfl (fun E hn hb => ?_)
 repeat (first | refine du2 (id := 1) ?_ | refine nx ?_)
 exact rt1 [82]
theorem rswpartsD_ok (t o m s : List Int) (ht : t.length ≤ 100000) (hg : rightG o m = true) (hm : m.length ≤ 100000) (hs : s.length ≤ 100000) : Ct Tryz.prog 50 [sealA t o m s] [] (B8 (wrPZ t o m s)) [] [] :=
 Ct.freeze (rswparts_ok t o m s ht hg hm hs) ⟨rfl, rfl, rfl, Nat.le_of_eq (Nat.zero_add _), by rw [List.drop_zero, List.take_length]⟩ rfl
end Go.Proofs.YthoaneleeabadaaGreat

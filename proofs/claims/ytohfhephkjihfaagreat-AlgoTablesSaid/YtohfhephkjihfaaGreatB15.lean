/-
  Build: rows put in order are in order, the same rows, and it matters not how they stood. No program in sight. No condition.
-/
import Derived.Test.YtohfhephkjihfaaGreatC12
import Derived.Test.YtohfhephkjihfaaGreatD15
import Derived.Test.YtohfhephkjihfaaGreatD8
import Derived.Test.YtohfhephkjihfaaGreatW16
import Derived.Test.YtohfhephkjihfaaGreatSxQ
import Derived.Test.YtohfhephkjihfaaGreatSxX
namespace Go.Proofs.YtohfhephkjihfaaGreat
set_option linter.unusedSimpArgs false
set_option linter.unusedVariables false
open Go.Sx
set_option maxRecDepth 10000
abbrev algA (o m : List Int) : Av := .agg [.lf (.ints .i64 o), .lf (.ints .u8 m)]
abbrev rdA : Av := .agg [.ptr 0 0]
theorem opened_ok (l : List Int) (p : Nat) (hp : p ≤ l.length) (hl : l.length ≤ 1000000) (hw : WfB l) (he : (openP l p (ofT 16)).2.2 = 0) : Ct Tryz.prog 49 [.c (.ptr 0 0)] [curB l p] (.tup [.agg [.ptr 1 0], lv (.int .i64 0)]) [curB l (openP l p (ofT 16)).2.1] [curB (openP l p (ofT 16)).1 0] := by
 have hho := headof_ok 16
 have hop := open_ok l p (ofT 16) hp hl hw he
 generalize openP l p (ofT 16) = X at *
 obtain ⟨x, q, e⟩ := X
 dsimp only at *
 refine Ct_intro Tryz.func49 rfl rfl rfl rfl rfl (fun E hn hb => ?_)
 repeat refine nx ?_
 exact rt1 [73]
theorem opened_err (l : List Int) (p : Nat) (hp : p ≤ l.length) (hl : l.length ≤ 1000000) (hw : WfB l) (he : ¬ (openP l p (ofT 16)).2.2 = 0) : Ct Tryz.prog 49 [.c (.ptr 0 0)] [curB l p] (.tup [.agg [.lf (.v (.pointer none))], lv (.int .i64 (openP l p (ofT 16)).2.2)]) [curB l p] [] := by
 have hho := headof_ok 16
 have hop := open_err l p (ofT 16) hp hl hw he
 generalize openP l p (ofT 16) = X at *
 obtain ⟨x, q, e⟩ := X
 dsimp only at *
 refine Ct_intro Tryz.func49 rfl rfl rfl rfl rfl (fun E hn hb => ?_)
 repeat refine nx ?_
 exact rt1 []
def parP (x : List Int) (p : Nat) : List Int × Int × Nat :=
 if p = x.length then ([], 0, p) else
   let r := readP x p
   if r.2.2 = 0 then
     (if (x.length : Int) - (r.2.1 : Int) < r.1.2 then ([], 3, r.2.1) else if r.1.2 < (x.length : Int) - (r.2.1 : Int) then ([], 7, r.2.1) else (x.drop p, 0, x.length))
   else ([], r.2.2, r.2.1)
set_option maxHeartbeats 4000000 in
theorem params_ok (x : List Int) (p : Nat) (hp : p ≤ x.length) (hl : x.length ≤ 1000000) (hw : WfB x) : Ct Tryz.prog 67 [rdA] [curB x p] (.tup [B8 (parP x p).1, lv (.int .i64 (parP x p).2.1)]) [curB x (parP x p).2.2] [] := by
 have hlf := left_ok x p hp (by omega)
 have hat := at_ok x p
 have hrd := headread_ok x p hp hl hw
 have hle := readP_le x p hp
 unfold parP
 by_cases h0 : p = x.length
 · rw [if_pos h0]
   subst h0
   refine Ct_intro Tryz.func67 rfl rfl rfl rfl rfl (fun E hn hb => ?_)
   repeat refine nx ?_
   exact rtU []
 · rw [if_neg h0]
   generalize readP x p = R at *
   obtain ⟨⟨t, n⟩, q, e⟩ := R
   dsimp only at *
   have hlf2 := left_ok x q hle.2 (by omega)
   have hbk := back_ok x q p hle.1 (by omega)
   have hre := rest_ok x p hp hl
   by_cases he : e = 0
   · subst he
     rw [if_pos rfl]
     by_cases h1 : (x.length : Int) - (q : Int) < n
     · rw [if_pos h1]
       refine Ct_intro Tryz.func67 rfl rfl rfl rfl rfl (fun E hn hb => ?_)
       repeat refine nx ?_
       exact rtU []
     · rw [if_neg h1]
       by_cases h2 : n < (x.length : Int) - (q : Int)
       · rw [if_pos h2]
         refine Ct_intro Tryz.func67 rfl rfl rfl rfl rfl (fun E hn hb => ?_)
         repeat refine nx ?_
         exact rtU []
       · rw [if_neg h2]
         refine Ct_intro Tryz.func67 rfl rfl rfl rfl rfl (fun E hn hb => ?_)
         repeat refine nx ?_
         exact rtU []
   · rw [if_neg he]
     refine Ct_intro Tryz.func67 rfl rfl rfl rfl rfl (fun E hn hb => ?_)
     repeat refine nx ?_
     exact rtU []

def algP (x : List Int) (p : Nat) : List Int × List Int × Int × Nat :=
 let o := oidR x p
 if o.2.2 = 0 then (let m := parP x o.2.1; if m.2.1 = 0 then (o.1, m.1, 0, m.2.2) else ([], [], m.2.1, m.2.2)) else ([], [], o.2.2, o.2.1)
def algR (l : List Int) (p : Nat) : List Int × List Int × Int × Nat :=
 let r := openP l p (ofT 16)
 if r.2.2 = 0 then (let a := algP r.1 0; if a.2.2.1 = 0 then (a.1, a.2.1, 0, r.2.1) else ([], [], a.2.2.1, p)) else ([], [], r.2.2, p)
theorem algP_err (x : List Int) (p : Nat) (h : ¬ (algP x p).2.2.1 = 0) : (algP x p).1 = [] ∧ (algP x p).2.1 = [] := by
 unfold algP at h ⊢
 dsimp only at h ⊢
 split at h
 · rename_i h1
   rw [if_pos h1]
   split at h
   · exact absurd rfl h
   · rename_i h2
     rw [if_neg h2]
     exact ⟨rfl, rfl⟩
 · rename_i h1
   rw [if_neg h1]
   exact ⟨rfl, rfl⟩
set_option maxHeartbeats 4000000 in
theorem alg_ok (x : List Int) (p : Nat) (hp : p ≤ x.length) (hl : x.length ≤ 1000000) (hw : WfB x) : Ct Tryz.prog 50 [rdA] [curB x p] (.tup [algA (algP x p).1 (algP x p).2.1, lv (.int .i64 (algP x p).2.2.1)]) [curB x (algP x p).2.2.2] [] := by
 have hor := oread_ok x p hp hl hw
 have hle := oidR_le x p hp
 unfold algP
 generalize oidR x p = O at *
 obtain ⟨o, q, e⟩ := O
 dsimp only at *
 by_cases he : e = 0
 · subst he
   rw [if_pos rfl]
   have hpa := params_ok x q hle.2 hl hw
   generalize parP x q = M at *
   obtain ⟨m, f, q2⟩ := M
   dsimp only at *
   by_cases hf : f = 0
   · subst hf
     rw [if_pos rfl]
     refine Ct_intro Tryz.func50 rfl rfl rfl rfl rfl (fun E hn hb => ?_)
     repeat refine nx ?_
     exact rt1 []
   · rw [if_neg hf]
     refine Ct_intro Tryz.func50 rfl rfl rfl rfl rfl (fun E hn hb => ?_)
     repeat refine nx ?_
     refine rtU [] (hu := ?_)
     exact ⟨⟨.inr ⟨rfl, .inl ⟨_, rfl⟩⟩, .inr ⟨rfl, .inl ⟨_, rfl⟩⟩, trivial⟩, .inl rfl, trivial⟩
 · rw [if_neg he]
   refine Ct_intro Tryz.func50 rfl rfl rfl rfl rfl (fun E hn hb => ?_)
   repeat refine nx ?_
   refine rtU [] (hu := ?_)
   exact ⟨⟨.inr ⟨rfl, .inl ⟨_, rfl⟩⟩, .inr ⟨rfl, .inl ⟨_, rfl⟩⟩, trivial⟩, .inl rfl, trivial⟩
set_option maxHeartbeats 4000000 in
theorem readalg_ok (l : List Int) (p : Nat) (hp : p ≤ l.length) (hl : l.length ≤ 1000000) (hw : WfB l) : Ct Tryz.prog 33 [.c (.ptr 0 0)] [curB l p] (.tup [algA (algR l p).1 (algR l p).2.1, lv (.int .i64 (algR l p).2.2.1)]) [curB l (algR l p).2.2.2] [] := by
 have hat := at_ok l p
 have hok := opened_ok l p hp hl hw
 have her := opened_err l p hp hl hw
 have hle := openP_le l p (ofT 16) hp
 have hmem := openP_mem l p (ofT 16)
 unfold algR
 generalize openP l p (ofT 16) = X at *
 obtain ⟨x, q, e⟩ := X
 dsimp only at *
 by_cases he : e = 0
 · subst he
   rw [if_pos rfl]
   have hok := hok rfl
   have hal := alg_ok x 0 (Nat.zero_le _) (by omega) (fun y hy => hw y (hmem.2 y hy))
   have hnil := algP_err x 0
   have hbk := back_ok l q p hle.1 (by omega)
   generalize algP x 0 = A at *
   obtain ⟨o, m, f, q2⟩ := A
   dsimp only at *
   by_cases hf : f = 0
   · subst hf
     rw [if_pos rfl]
     refine Ct_intro Tryz.func33 rfl rfl rfl rfl rfl (fun E hn hb => ?_)
     repeat refine nx ?_
     exact rt1 []
   · obtain ⟨rfl, rfl⟩ := hnil hf
     rw [if_neg hf]
     refine Ct_intro Tryz.func33 rfl rfl rfl rfl rfl (fun E hn hb => ?_)
     repeat refine nx ?_
     exact rt1 []
 · rw [if_neg he]
   have her := her he
   refine Ct_intro Tryz.func33 rfl rfl rfl rfl rfl (fun E hn hb => ?_)
   repeat refine nx ?_
   refine rtU [] (hu := ?_)
   exact ⟨⟨.inr ⟨rfl, .inl ⟨_, rfl⟩⟩, .inr ⟨rfl, .inl ⟨_, rfl⟩⟩, trivial⟩, .inl rfl, trivial⟩

theorem wrap_len (t : TagP) (X : List Int) : (wrapL t X).length ≤ X.length + 20 := by
 have h1 := lowD_len 128 5 t.2.1.toNat
 have h2 := lowD_len 256 5 X.length
 have hT5 : (tgL t).length ≤ 10 := by
   unfold tgL
   split
   · simp
   · simp [hiL_len]; omega
 have hL5 : (lenL X.length).length ≤ 10 := by
   generalize X.length = n at *
   unfold lenL
   split
   · simp
   · simp; omega
 simp only [wrapL, List.length_append]
 omega

def oneP (l : List Int) (p : Nat) : List Int × TagP × List Int × Int × Nat :=
 if ¬ (readP l p).2.2 = 0 then ([], (readP l p).1.1, [], (readP l p).2.2, p)
 else if (l.length : Int) - (readP l p).2.1 < (readP l p).1.2 then ([], (readP l p).1.1, [], 3, p)
 else ((l.drop p).take ((readP l p).2.1 - p + (readP l p).1.2.toNat), (readP l p).1.1, (l.drop (readP l p).2.1).take (readP l p).1.2.toNat, 0, (readP l p).2.1 + (readP l p).1.2.toNat)
set_option maxHeartbeats 4000000 in
theorem one_ok (l : List Int) (p : Nat) (hp : p ≤ l.length) (hl : l.length ≤ 1000000) (hw : WfB l) :
   Ct Tryz.prog 115 [.c (.ptr 0 0)] [curB l p] (.tup [B8 (oneP l p).1, tagA (oneP l p).2.1, B8 (oneP l p).2.2.1, lv (.int .i64 (oneP l p).2.2.2.1)]) [curB l (oneP l p).2.2.2.2] [] := by
 have hr := headread_ok l p hp hl hw
 have hle := readP_le l p hp
 have hpos := readP_pos l p hw
 have hst : ¬ (readP l p).2.2 = 0 → (readP l p).2.1 = p := keepP_stay _ _ _
 have hat := at_ok l p
 generalize hRR : oneP l p = R
 unfold oneP at hRR
 generalize readP l p = F at *
 obtain ⟨⟨⟨t1, t2, t3⟩, n⟩, q, e⟩ := F
 dsimp only at *
 by_cases he : e = 0
 · subst he
   rw [if_neg (by simp)] at hRR
   obtain ⟨N, rfl⟩ : ∃ N : Nat, n = N := ⟨n.toNat, by omega⟩
   rw [Int.toNat_natCast] at hRR
   have hat2 := at_ok l q
   have hlf := left_ok l q hle.2 (by omega)
   have hbk := back_ok l q p hle.1 (by omega)
   by_cases hN : (l.length : Int) - q < N
   · rw [if_pos hN] at hRR
     subst hRR
     refine Ct_intro Tryz.func115 rfl rfl rfl rfl rfl (fun E hn hb => ?_)
     repeat refine nx ?_
     exact rtU []
   · rw [if_neg hN] at hRR
     subst hRR
     have htk := take_ok l p (q - p + N) (by omega) hl
     rw [show ((q - p + N : Nat) : Int) = ((q : Int) - (p : Int)) + (N : Int) by omega, show p + (q - p + N) = q + N by omega] at htk
     have hcut : (((l.drop p).take (q - p + N)).take (((l.drop p).take (q - p + N)).length : Int).toNat).drop ((q : Int) - (p : Int)).toNat = (l.drop q).take N := by
       rw [Int.toNat_natCast, List.take_length, show ((q : Int) - (p : Int)).toNat = q - p by omega, List.drop_take, List.drop_drop]
       congr 1
       · omega
       · congr 1; omega
     dsimp only
     rw [← hcut]
     refine Ct_intro Tryz.func115 rfl rfl rfl rfl rfl (fun E hn hb => ?_)
     repeat refine nx ?_
     exact rtU []
 · rw [if_pos he] at hRR
   obtain rfl := hst he
   subst hRR
   refine Ct_intro Tryz.func115 rfl rfl rfl rfl rfl (fun E hn hb => ?_)
   repeat refine nx ?_
   exact rtU []
theorem one_le (l : List Int) (p : Nat) (hp : p ≤ l.length) (hw : WfB l) : p ≤ (oneP l p).2.2.2.2 ∧ (oneP l p).2.2.2.2 ≤ l.length ∧ (oneP l p).1.length ≤ l.length ∧ (oneP l p).2.2.1.length ≤ l.length := by
 have hle := readP_le l p hp
 have hpos := readP_pos l p hw
 unfold oneP
 split
 · exact ⟨Nat.le_refl _, hp, Nat.zero_le _, Nat.zero_le _⟩
 · split
   · exact ⟨Nat.le_refl _, hp, Nat.zero_le _, Nat.zero_le _⟩
   · dsimp only
     refine ⟨by omega, by omega, ?_, ?_⟩ <;> simp <;> omega

theorem sequence_ok (bs : List (List Int)) (hbl : bs.length ≤ 100000) (hl : bs.flatten.length ≤ 1000000) : Ct Tryz.prog 70 [rowsA bs] [] (.tup [B8 (wrapL (ofT 16) bs.flatten), lv (.int .i64 0)]) [] [] := by
 have h1 := headof_ok 16
 have h2 := wrap_ok (ofT 16) bs (by decide) hbl hl
 refine Ct_intro Tryz.func70 rfl rfl rfl rfl rfl (fun E hn hb => ?_)
 repeat refine nx ?_
 exact rt1 []

def wholesA (l : List Int) : Nat → Nat → List (List Int) → List (List Int) × Int
 | 0, _, acc => (acc, 0)
 | n + 1, p, acc => if l.length ≤ p then (acc, 0) else if ¬ (oneP l p).2.2.2.1 = 0 then ([], (oneP l p).2.2.2.1) else wholesA l n (oneP l p).2.2.2.2 (acc ++ [(oneP l p).1])
def wholesP (l : List Int) (p : Nat) : List (List Int) × Int := wholesA l (l.length + 1) p []
abbrev recB (rs : List (List Int)) : List (List Leaf) := rs.map fun b => [.ints .u8 b]
theorem readP_adv (b : List Int) (p : Nat) (h : (readP b p).2.2 = 0) : p < (readP b p).2.1 := by
 unfold readP keepP at h ⊢
 split at h
 · rename_i h0
   rw [if_pos h0]
   unfold rawF at h h0 ⊢
   split at h0
   · rename_i ht
     rw [if_pos ht] at h ⊢
     dsimp only at h0 ⊢
     have h1 : p < (tagP b p).2.1 := by
       unfold tagP keepP at ht ⊢
       split at ht
       · rename_i h2
         rw [if_pos h2]
         unfold rawT at h2 ⊢
         split
         · rename_i h3
           rw [if_pos h3] at h2
           split
           · have := (numP_le b 3 (p + 1) 0 (by omega)).1
             dsimp only
             omega
           · dsimp only; omega
         · rename_i h3
           rw [if_neg h3] at h2
           simp at h2
       · rename_i h2
         exact absurd ht h2
     have h2 : (tagP b p).2.1 ≤ (lenP b (tagP b p).2.1).2.1 := by
       by_cases hb : p < b.length
       · exact (lenP_le b _ (tagP_le b p (by omega)).2).1
       · unfold tagP keepP rawT at ht
         rw [if_neg hb] at ht
         simp at ht
     omega
   · rename_i ht
     exact absurd h0 ht
 · rename_i h0
   exact absurd h h0
theorem one_fwd (l : List Int) (p : Nat) (hp : p < l.length) (hw : WfB l) (h : (oneP l p).2.2.2.1 = 0) : p < (oneP l p).2.2.2.2 ∧ (oneP l p).2.2.2.2 ≤ l.length ∧ (oneP l p).1 = (l.drop p).take ((oneP l p).2.2.2.2 - p) := by
 have hle := readP_le l p (by omega)
 have hpos := readP_pos l p hw
 have hadv := readP_adv l p
 unfold oneP at *
 split at h
 · rename_i h'; exact absurd h h'
 · rename_i h1
   split at h
   · simp at h
   · rename_i h2
     rw [if_neg h1, if_neg h2]
     dsimp only
     have := hadv (by simpa using h1)
     refine ⟨by omega, by omega, ?_⟩
     congr 1
     omega
theorem wholesA_step (l : List Int) (n p : Nat) (acc : List (List Int)) (hp : p < l.length) (he : (oneP l p).2.2.2.1 = 0) : wholesA l (n + 1) p acc = wholesA l n (oneP l p).2.2.2.2 (acc ++ [(oneP l p).1]) := by
 rw [wholesA, if_neg (by omega), if_neg (by simpa using he)]
set_option maxHeartbeats 4000000 in
theorem wholes_ok (l : List Int) (p : Nat) (hp : p ≤ l.length) (hl : l.length ≤ 100000) (hw : WfB l) :
   Ct Tryz.prog 95 [.c (.ptr 0 0)] [curB l p] (.tup [.c (.lf (.recs 1 (recB (wholesP l p).1))), lv (.int .i64 (wholesP l p).2)]) [curB l (if (wholesP l p).2 = 0 then l.length else p)] [] := by
 have hat := at_ok l p
 refine Ct_intro Tryz.func95 rfl rfl rfl rfl rfl (fun E hn hb => ?_)
 repeat refine nx ?_
 refine W_own_nil 5 900 1 (.recs 1 []) rfl rfl (.inr (.inr ⟨_, rfl⟩)) ?_
 refine W_weaken (St.le_of (l := [(0, .c (.ptr 0 0)), (4, lv (.int .i64 (p : Int))), (5, .c (.own 900 1 0 (recB []).length))]) (h := [(0, curB l p), (900, .row (.recs 1 (recB [])))]) (by refine ⟨?_, ?_⟩ <;> (repeat' (first | exact trivial | exact rfl | refine ⟨?_, ?_⟩)) <;> first | exact rfl | (simp; done) | skip)) ?_
 refine W_loop (ι := {x : Nat × Nat × List (List Int) // p ≤ x.2.1 ∧ x.2.1 ≤ l.length ∧ l.length - x.2.1 < x.1 ∧ x.2.2.length ≤ x.2.1 ∧ wholesA l x.1 x.2.1 x.2.2 = wholesP l p}) (fun i => St.of [(0, .c (.ptr 0 0)), (4, lv (.int .i64 (p : Int))), (5, .c (.own 900 1 0 (recB i.1.2.2).length))] [(0, curB l i.1.2.1), (900, .row (.recs 1 (recB i.1.2.2)))]) (fun i => l.length - i.1.2.1) (fun i => ?_) ⟨(l.length + 1, p, []), Nat.le_refl _, hp, by dsimp only; omega, Nat.zero_le _, rfl⟩
 obtain ⟨⟨n, q, acc⟩, h0, h1, h2, h3, h4⟩ := i
 change p ≤ q at h0
 change q ≤ l.length at h1
 change l.length - q < n at h2
 change acc.length ≤ q at h3
 change wholesA l n q acc = wholesP l p at h4
 dsimp only
 have hlf := left_ok l q h1 (by omega)
 obtain ⟨n, rfl⟩ : ∃ m, n = m + 1 := ⟨n - 1, by omega⟩
 by_cases hq : q < l.length
 · have ho := one_ok l q h1 (by omega) hw
   have hf := one_fwd l q hq hw
   have hle := one_le l q h1 hw
   have hst := wholesA_step l n q acc hq
   have her : ¬ (oneP l q).2.2.2.1 = 0 → wholesA l (n + 1) q acc = ([], (oneP l q).2.2.2.1) := fun h => by rw [wholesA, if_neg (by omega), if_pos h]
   generalize oneP l q = O at *
   obtain ⟨a, ⟨t1, t2, t3⟩, c, e, r⟩ := O
   dsimp only at *
   by_cases he : e = 0
   · subst he
     have hf := hf rfl
     have hrec : recB (acc ++ [a]) = recB acc ++ [[.ints .u8 a]] := by simp [recB]
     rw [hst rfl] at h4
     repeat refine nx ?_
     refine N_round ⟨(n, r, acc ++ [a]), by dsimp only; omega, by dsimp only; omega, by dsimp only; omega, by dsimp only; simp; omega, h4⟩ (by dsimp only; omega) (St.le_of ⟨⟨rfl, rfl, ?_⟩, ⟨rfl, ?_⟩⟩)
     · dsimp only; rw [hrec]; rfl
     · dsimp only; rw [hrec]; rfl
   · have her := her he
     rw [h4] at her
     rw [her]
     have hbk := back_ok l r p (by omega) (by omega)
     dsimp only
     rw [if_neg he]
     repeat refine nx ?_
     exact rtU []
 · have hw0 : wholesP l p = (acc, 0) := by rw [← h4, wholesA, if_pos (by omega)]
   rw [hw0]
   obtain rfl : q = l.length := by omega
   dsimp only
   rw [if_pos rfl]
   repeat refine nx ?_
   refine frzN 2 ?_
   exact rtU []

def partL : List Int → List Int → Nat
 | x :: a, y :: b => if x = y then partL a b + 1 else 0
 | _, _ => 0
theorem part_step : ∀ (a b : List Int) (i : Nat), (∀ k, k < i → a.getD k 0 = b.getD k 0) → i < a.length → i < b.length → a.getD i 0 ≠ b.getD i 0 → partL a b = i
 | [], b, i, _, h, _, _ => by simp at h
 | x :: a, [], i, _, _, h, _ => by simp at h
 | x :: a, y :: b, 0, _, _, _, h => by simp at h; simp [partL, h]
 | x :: a, y :: b, i + 1, h, h1, h2, h3 => by
   have h0 : x = y := by simpa using h 0 (by omega)
   have := part_step a b i (fun k hk => by simpa using h (k + 1) (by omega)) (by simpa using h1) (by simpa using h2) (by simpa using h3)
   simp only [partL, h0, if_true, this]
theorem part_all : ∀ (a b : List Int), (∀ k, k < min a.length b.length → a.getD k 0 = b.getD k 0) → partL a b = min a.length b.length
 | [], b, _ => by cases b <;> simp [partL]
 | x :: a, [], _ => by simp [partL]
 | x :: a, y :: b, h => by
   have h0 : x = y := by simpa using h 0 (by simp)
   have := part_all a b (fun k hk => by simpa using h (k + 1) (by simp; omega))
   simp only [partL, h0, if_true, this]
   simp
theorem parted_ok (a b : List Int) (ha : a.length ≤ 1000000) (hb' : b.length ≤ 1000000) : Ct Tryz.prog 43 [B8 a, B8 b] [] (lv (.int .i64 (partL a b))) [] [] := by
 refine Ct_intro Tryz.func43 rfl rfl rfl rfl rfl (fun E hn hb => ?_)
 repeat (refine nst ?_)
 have hN : min (a.length : Int) b.length = ((min a.length b.length : Nat) : Int) := by omega
 rw [hN]
 generalize hn0 : min a.length b.length = n at *
 refine W_weaken (St.le_of (l := [(0, B8 a), (1, B8 b), (5, lv (.int .i64 (n : Int))), (12, lv (.int .i64 (n : Int))), (13, lv (.int .i64 0))]) (h := []) (by refine ⟨?_, ?_⟩ <;> (repeat' (first | exact trivial | exact rfl | refine ⟨?_, ?_⟩)) <;> first | exact rfl | (simp; done) | skip)) ?_
 refine W_loop (ι := {i : Nat // i ≤ n ∧ ∀ k, k < i → a.getD k 0 = b.getD k 0}) (fun i => St.of [(0, B8 a), (1, B8 b), (5, lv (.int .i64 (n : Int))), (12, lv (.int .i64 (n : Int))), (13, lv (.int .i64 (i.1 : Int)))] []) (fun i => n - i.1) (fun i => ?_) ⟨0, by omega, fun k hk => by omega⟩
 obtain ⟨i, hi, he⟩ := i
 dsimp only
 repeat (refine nst ?_)
 refine W_cond rfl (by simp) (fun hc => ?_) (fun hc => ?_)
 · have hin : i < n := by simp at hc; omega
   repeat (refine nst ?_)
   refine W_drawW 9 (by kernel_rfl) (by kernel_rfl) (by kernel_rfl) (by rw [hn]; rfl) rfl rfl ?_
   repeat (first | refine dp1 ?_ | refine dg1 ?_ | refine DrawW_nil ?_)
   repeat (refine nst ?_)
   refine W_cond rfl (by simp) (fun hq => ?_) (fun hq => ?_)
   · have hne : a.getD i 0 ≠ b.getD i 0 := by simpa using hq
     rw [part_step a b i he (by omega) (by omega) hne]
     repeat (refine nst ?_)
     exact rt1 []
   · have hne : a.getD i 0 = b.getD i 0 := by simpa using hq
     repeat (refine nst ?_)
     refine N_round ⟨i + 1, by omega, fun k hk => ?_⟩ (by dsimp only; omega) (St.le_of ⟨⟨rfl, rfl, rfl, rfl, rfl⟩, trivial⟩)
     rcases Nat.lt_or_ge k i with h | h
     · exact he k h
     · have : k = i := by omega
       subst this; exact hne
 · have : i = n := by simp at hc; omega
   subst this
   rw [part_all a b (by rw [hn0]; exact he), hn0]
   repeat (refine nst ?_)
   exact rt1 []

theorem cmpL_anti : ∀ a b : List Int, cmpL a b < 0 ↔ 0 < cmpL b a
 | [], [] => by simp [cmpL]
 | [], _ :: _ => by simp [cmpL]
 | _ :: _, [] => by simp [cmpL]
 | x :: a, y :: b => by
   have ih := cmpL_anti a b
   simp only [cmpL]
   (repeat' split) <;> first | omega | exact ih

theorem cmpL_trans : ∀ a b c : List Int, cmpL a b ≤ 0 → cmpL b c ≤ 0 → cmpL a c ≤ 0
 | [], [], _, _, h => h
 | [], _ :: _, [], _, _ => by simp [cmpL]
 | [], _ :: _, _ :: _, _, _ => by simp [cmpL]
 | _ :: _, [], _, h, _ => by simp [cmpL] at h
 | _ :: _, _ :: _, [], _, h => by simp [cmpL] at h
 | x :: a, y :: b, z :: c, h1, h2 => by
   have ih := cmpL_trans a b c
   simp only [cmpL] at *
   (repeat' split at h1) <;> (repeat' split at h2) <;> (repeat' split) <;> first | omega | exact ih h1 h2 | (simp at h1; done) | (simp at h2; done)
end Go.Proofs.YtohfhephkjihfaaGreat

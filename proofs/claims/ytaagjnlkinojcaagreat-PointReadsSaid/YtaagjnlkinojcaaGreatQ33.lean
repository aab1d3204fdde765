/-
  Chapter 16: the document's points read. The conditions: rows of at most a hundred thousand bytes.
-/
import Derived.Test.YtaagjnlkinojcaaGreatQ29
import Derived.Test.YtaagjnlkinojcaaGreatD8
namespace Go.Proofs.YtaagjnlkinojcaaGreat
set_option linter.unusedSimpArgs false
set_option linter.unusedVariables false
open Go.Sx
set_option maxRecDepth 10000
theorem z3B : z27 (.agg [.lf (.v (.bool false)), z2I, z2I]) (rwA false ([], [])) := ⟨.inl rfl, .inr ⟨rfl, .inr ⟨_, rfl⟩⟩, .inr ⟨rfl, .inr ⟨_, rfl⟩⟩, trivial⟩
theorem zmg (g : List GnT) : z27 (.agg [.lf (.v (.bool true)), .lf (.recs 3 (gnR g)), z2I]) (rwA true (g, [])) := ⟨.inl rfl, .inl rfl, .inr ⟨rfl, .inr ⟨_, rfl⟩⟩, trivial⟩
theorem zmh (r : List AtT) : z27 (.agg [.lf (.v (.bool true)), z2I, .lf (z1t r)]) (rwA true ([], r)) := ⟨.inl rfl, .inr ⟨rfl, .inr ⟨_, rfl⟩⟩, .inl rfl, trivial⟩
abbrev rwE (p : Nat) (r : Option WhT × Nat × Int) : Av := .tup [rwA r.1.isSome (whD r.1), lv (.int .i64 (z97 p r : Int)), lv (.int .i64 r.2.2)]
def zdw (x : List Int) : Option WhT × Int :=
 let r := z09 x 0
 if r.2.2 = 0 then
   if r.1.1 = (2, 0, true) ∨ r.1.1 = (2, 1, true) then
     let o := z0g x 0 r.1.1
     if o.2.2 = 0 then
       if r.1.1.2.1 = 0 then (if (z0y o.1).2.2 = 0 then (if o.2.1 < x.length then (none, 7) else (some ((z0y o.1).1, []), 0)) else (none, (z0y o.1).2.2))
       else (let s := z1d (z0q (ofT 17) o.1) 0; if s.2.2 = 0 then (if o.2.1 < x.length then (none, 7) else (some ([], s.1), 0)) else (none, s.2.2))
     else (none, o.2.2)
   else (none, 4)
 else (none, r.2.2)
theorem z8P {l : List Int} {p : Nat} (t : z0m) (h : (z09 l p).2.2 = 0) : isH l p t = decide ((z09 l p).1.1 = t) := by
 unfold isH
 rw [h, decide_eq_true rfl, Bool.true_and]
theorem zhG {x : List Int} (hw : WfB x) : (zdw x) = (let s := z41 x; if s.2.2 = 0 then (if s.2.1 < x.length then (none, 7) else (s.1, 0)) else (none, s.2.2)) := by
 unfold zdw z41
 dsimp only
 by_cases h1 : (z09 x 0).2.2 = 0
 · rw [if_pos h1, if_pos h1, z8P _ h1, z8P _ h1]
   by_cases h2 : (z09 x 0).1.1 = (2, 0, true)
   · rw [if_pos (.inl h2), h2, decide_eq_true rfl, if_pos rfl]
     unfold z0o
     rw [z8P _ h1, h2, decide_eq_true rfl, if_pos rfl]
     dsimp only
     rw [if_pos rfl]
     by_cases h3 : (z0g x 0 (2, 0, true)).2.2 = 0
     · rw [if_pos h3, if_pos h3]
       by_cases h4 : (z0y (z0g x 0 (2, 0, true)).1).2.2 = 0
       · rw [if_pos h4, if_pos h4]
         obtain ⟨_, h5, _⟩ := z8V (x := (z0g x 0 (2, 0, true)).1) (r := (z0y (z0g x 0 (2, 0, true)).1).1) (s := (z0y (z0g x 0 (2, 0, true)).1).2.1) (fun z hz => hw z ((z0w x 0 (2, 0, true)).2 z hz)) (Prod.ext rfl (Prod.ext rfl h4))
         simp only [h5, Nat.lt_irrefl, if_false, if_true]
       · rw [if_neg h4, if_neg h4]
         simp only [if_neg h4]
     · rw [if_neg h3, if_neg h3]
       simp only [if_neg h3]
   · rw [decide_eq_false h2, if_neg Bool.false_ne_true]
     by_cases h6 : (z09 x 0).1.1 = (2, 1, true)
     · rw [if_pos (.inr h6), h6, decide_eq_true rfl, if_pos rfl]
       unfold z0o
       rw [z8P _ h1, h6, decide_eq_true rfl, if_pos rfl]
       unfold z3K
       dsimp only
       rw [if_neg (by decide : ¬ (1 : Int) = 0)]
       by_cases h3 : (z0g x 0 (2, 1, true)).2.2 = 0
       · rw [if_pos h3, if_pos h3]
         by_cases h4 : (z1d (z0q (ofT 17) (z0g x 0 (2, 1, true)).1) 0).2.2 = 0
         · rw [if_pos h4, if_pos h4, if_neg (Nat.lt_irrefl _)]
           simp only [if_true]
         · rw [if_neg h4, if_neg h4]
           simp only [if_neg h4]
       · rw [if_neg h3, if_neg h3]
         simp only [if_neg h3]
     · rw [if_neg (by rintro (h | h); exact h2 h; exact h6 h), decide_eq_false h6, if_neg Bool.false_ne_true]
       rfl
 · rw [if_neg h1, if_neg h1]
   simp only [if_neg h1]
theorem zeG {l : List Int} {p : Nat} {t : z0m} (hw : WfB l) : z0o none l p t z41 = (if (z1j l p t).2.2.1 = true then (let s := zdw (z1j l p t).1; (s.1, (z1j l p t).2.1, s.2)) else (none, p, (z1j l p t).2.2.2)) := by
 rw [z6L, zhG (fun z hz => hw z ((z60 l p t).2 z hz))]
 dsimp only
 split
 · split
   · split
     · rfl
     · rfl
   · rfl
 · rfl

set_option maxHeartbeats 8000000 in
theorem zeH (l : List Int) (p : Nat) (hp : p ≤ l.length) (hl : l.length ≤ 98000) (hw : WfB l) : Ct Tryz.prog 58 [B8 l, lv (.int .i64 (p : Int))] [] (rwE p (z0o none l p (2, 0, true) z41)) [] [] := by
 have hnx := z7R l p 0 true hp (by omega) hw
 have hm := z60 l p (2, 0, true)
 have hno := @z96 l p (2, 0, true)
 have hyes := @z7S l p (2, 0, true)
 rw [zeG hw]
 unfold rwE z97
 generalize z1j l p (2, 0, true) = X at *
 obtain ⟨x, q, T, e⟩ := X
 dsimp only at *
 cases T with
 | false =>
   obtain ⟨rfl, rfl⟩ := hno Bool.false_ne_true
   rw [if_neg Bool.false_ne_true]
   dsimp only
   rw [ite_self]
   clear hno hyes hm
   show Ct _ _ _ _ (.tup [rwA false ([], []), lv (.int .i64 (q : Int)), lv (.int .i64 e)]) _ _
   by_cases he : e = 0
   · subst he
     refine z00 Tryz.func58 rfl rfl rfl rfl rfl (fun E hn hb => ?_)
     repeat refine nx ?_
     refine rtU [] (hu := ?_)
     exact ⟨z3B, .inl rfl, .inl rfl, trivial⟩
   · refine z00 Tryz.func58 rfl rfl rfl rfl rfl (fun E hn hb => ?_)
     repeat refine nx ?_
     refine rtU [] (hu := ?_)
     exact ⟨z3B, .inl rfl, .inl rfl, trivial⟩
 | true =>
   obtain rfl := hyes rfl
   rw [if_pos rfl]
   clear hno hyes
   have hwx : WfB x := fun z hz => hw z (hm.2 z hz)
   have hrd := z3p x 0 (Nat.zero_le _) (by omega) hwx
   have hop := z2t x 0 (z09 x 0).1.1 (Nat.zero_le _) (by omega) hwx
   have hom := z0w x 0 (z09 x 0).1.1
   have ha0 := z75 0 true
   have ha1 := z75 1 true
   unfold zdw
   generalize z09 x 0 = R at *
   obtain ⟨⟨⟨c, k, m⟩, z⟩, r, er⟩ := R
   dsimp only at *
   by_cases h1 : er = 0
   · subst h1
     rw [if_pos rfl]
     by_cases h2 : (c, k, m) = ((2, 0, true) : z0m) ∨ (c, k, m) = ((2, 1, true) : z0m)
     · rw [if_pos h2]
       generalize z0g x 0 (c, k, m) = Y at *
       obtain ⟨y, s, f⟩ := Y
       dsimp only at *
       have hwy : WfB y := fun z hz => hwx z (hom.2 z hz)
       rcases h2 with h2 | h2
       all_goals
         simp only [Prod.mk.injEq] at h2
         obtain ⟨rfl, rfl, rfl⟩ := h2
       · by_cases hf : f = 0
         · subst hf
           rw [if_pos rfl]
           have hgp := z7b y (by omega) hwy
           rw [if_pos rfl]
           generalize z0y y = G at *
           obtain ⟨g, gs, ge⟩ := G
           dsimp only at *
           by_cases hge : ge = 0
           · subst hge
             rw [if_pos rfl]
             by_cases hs : s < x.length
             · rw [if_pos hs]
               dsimp only
               rw [if_neg (by decide : ¬ (7 : Int) = 0)]
               show Ct _ _ _ _ (.tup [rwA false ([], []), lv (.int .i64 (p : Int)), lv (.int .i64 7)]) _ _
               refine z00 Tryz.func58 rfl rfl rfl rfl rfl (fun E hn hb => ?_)
               repeat refine nx ?_
               refine z05 rfl (by simp) (fun hc => ?_) (fun hc => ?_)
               · exfalso
                 change (bif (z0U (z0A (2, 0, true)) (z0A (2, 0, true)) != true) then (z0U (z0A (2, 0, true)) (z0A (2, 1, true)) != true) else false) = true at hc
                 rw [eqT, eqT] at hc
                 exact absurd hc (by decide)
               · repeat refine nx ?_
                 refine rtU [] (hu := ?_)
                 exact ⟨z3B, .inl rfl, .inl rfl, trivial⟩
             · rw [if_neg hs]
               dsimp only
               rw [if_pos rfl]
               show Ct _ _ _ _ (.tup [rwA true (g, []), lv (.int .i64 (q : Int)), lv (.int .i64 0)]) _ _
               refine z00 Tryz.func58 rfl rfl rfl rfl rfl (fun E hn hb => ?_)
               repeat refine nx ?_
               refine z05 rfl (by simp) (fun hc => ?_) (fun hc => ?_)
               · exfalso
                 change (bif (z0U (z0A (2, 0, true)) (z0A (2, 0, true)) != true) then (z0U (z0A (2, 0, true)) (z0A (2, 1, true)) != true) else false) = true at hc
                 rw [eqT, eqT] at hc
                 exact absurd hc (by decide)
               · repeat refine nx ?_
                 refine rtU [] (hu := ?_)
                 exact ⟨zmg g, .inl rfl, .inl rfl, trivial⟩
           · rw [if_neg hge]
             dsimp only
             rw [if_neg hge]
             show Ct _ _ _ _ (.tup [rwA false ([], []), lv (.int .i64 (p : Int)), lv (.int .i64 ge)]) _ _
             refine z00 Tryz.func58 rfl rfl rfl rfl rfl (fun E hn hb => ?_)
             repeat refine nx ?_
             refine z05 rfl (by simp) (fun hc => ?_) (fun hc => ?_)
             · exfalso
               change (bif (z0U (z0A (2, 0, true)) (z0A (2, 0, true)) != true) then (z0U (z0A (2, 0, true)) (z0A (2, 1, true)) != true) else false) = true at hc
               rw [eqT, eqT] at hc
               exact absurd hc (by decide)
             · repeat refine nx ?_
               refine rtU [] (hu := ?_)
               exact ⟨z3B, .inl rfl, .inl rfl, trivial⟩
         · rw [if_neg hf]
           dsimp only
           rw [if_neg hf]
           show Ct _ _ _ _ (.tup [rwA false ([], []), lv (.int .i64 (p : Int)), lv (.int .i64 f)]) _ _
           refine z00 Tryz.func58 rfl rfl rfl rfl rfl (fun E hn hb => ?_)
           repeat refine nx ?_
           refine z05 rfl (by simp) (fun hc => ?_) (fun hc => ?_)
           · exfalso
             change (bif (z0U (z0A (2, 0, true)) (z0A (2, 0, true)) != true) then (z0U (z0A (2, 0, true)) (z0A (2, 1, true)) != true) else false) = true at hc
             rw [eqT, eqT] at hc
             exact absurd hc (by decide)
           · repeat refine nx ?_
             refine rtU [] (hu := ?_)
             exact ⟨z3B, .inl rfl, .inl rfl, trivial⟩
       · by_cases hf : f = 0
         · subst hf
           rw [if_pos rfl]
           have hof := z2u 17
           have hwr := z8M (ofT 17) y (by decide) (by omega)
           have hlw := z2T (ofT 17) y
           have hgp := z70 (z0q (ofT 17) y) 0 (Nat.zero_le _) (by omega) (z86 (ofT 17) y (by decide) hwy)
           rw [if_neg (by decide : ¬ (1 : Int) = 0)]
           generalize z0q (ofT 17) y = W at *
           generalize z1d W 0 = G at *
           obtain ⟨g, gs, ge⟩ := G
           dsimp only at *
           by_cases hge : ge = 0
           · subst hge
             rw [if_pos rfl]
             by_cases hs : s < x.length
             · rw [if_pos hs]
               dsimp only
               rw [if_neg (by decide : ¬ (7 : Int) = 0)]
               show Ct _ _ _ _ (.tup [rwA false ([], []), lv (.int .i64 (p : Int)), lv (.int .i64 7)]) _ _
               refine z00 Tryz.func58 rfl rfl rfl rfl rfl (fun E hn hb => ?_)
               repeat refine nx ?_
               refine z05 rfl (by simp) (fun hc => ?_) (fun hc => ?_)
               · exfalso
                 change (bif (z0U (z0A (2, 1, true)) (z0A (2, 0, true)) != true) then (z0U (z0A (2, 1, true)) (z0A (2, 1, true)) != true) else false) = true at hc
                 rw [eqT, eqT] at hc
                 exact absurd hc (by decide)
               · repeat refine nx ?_
                 refine rtU [] (hu := ?_)
                 exact ⟨z3B, .inl rfl, .inl rfl, trivial⟩
             · rw [if_neg hs]
               dsimp only
               rw [if_pos rfl]
               show Ct _ _ _ _ (.tup [rwA true ([], g), lv (.int .i64 (q : Int)), lv (.int .i64 0)]) _ _
               refine z00 Tryz.func58 rfl rfl rfl rfl rfl (fun E hn hb => ?_)
               repeat refine nx ?_
               refine z05 rfl (by simp) (fun hc => ?_) (fun hc => ?_)
               · exfalso
                 change (bif (z0U (z0A (2, 1, true)) (z0A (2, 0, true)) != true) then (z0U (z0A (2, 1, true)) (z0A (2, 1, true)) != true) else false) = true at hc
                 rw [eqT, eqT] at hc
                 exact absurd hc (by decide)
               · repeat refine nx ?_
                 refine rtU [] (hu := ?_)
                 exact ⟨zmh g, .inl rfl, .inl rfl, trivial⟩
           · rw [if_neg hge]
             dsimp only
             rw [if_neg hge]
             show Ct _ _ _ _ (.tup [rwA false ([], []), lv (.int .i64 (p : Int)), lv (.int .i64 ge)]) _ _
             refine z00 Tryz.func58 rfl rfl rfl rfl rfl (fun E hn hb => ?_)
             repeat refine nx ?_
             refine z05 rfl (by simp) (fun hc => ?_) (fun hc => ?_)
             · exfalso
               change (bif (z0U (z0A (2, 1, true)) (z0A (2, 0, true)) != true) then (z0U (z0A (2, 1, true)) (z0A (2, 1, true)) != true) else false) = true at hc
               rw [eqT, eqT] at hc
               exact absurd hc (by decide)
             · repeat refine nx ?_
               refine rtU [] (hu := ?_)
               exact ⟨z3B, .inl rfl, .inl rfl, trivial⟩
         · rw [if_neg hf]
           dsimp only
           rw [if_neg hf]
           show Ct _ _ _ _ (.tup [rwA false ([], []), lv (.int .i64 (p : Int)), lv (.int .i64 f)]) _ _
           refine z00 Tryz.func58 rfl rfl rfl rfl rfl (fun E hn hb => ?_)
           repeat refine nx ?_
           refine z05 rfl (by simp) (fun hc => ?_) (fun hc => ?_)
           · exfalso
             change (bif (z0U (z0A (2, 1, true)) (z0A (2, 0, true)) != true) then (z0U (z0A (2, 1, true)) (z0A (2, 1, true)) != true) else false) = true at hc
             rw [eqT, eqT] at hc
             exact absurd hc (by decide)
           · repeat refine nx ?_
             refine rtU [] (hu := ?_)
             exact ⟨z3B, .inl rfl, .inl rfl, trivial⟩
     · rw [if_neg h2]
       dsimp only
       rw [if_neg (by decide : ¬ (4 : Int) = 0)]
       show Ct _ _ _ _ (.tup [rwA false ([], []), lv (.int .i64 (p : Int)), lv (.int .i64 4)]) _ _
       refine z00 Tryz.func58 rfl rfl rfl rfl rfl (fun E hn hb => ?_)
       repeat refine nx ?_
       refine z05 rfl (by simp) (fun hc => ?_) (fun hc => ?_)
       · repeat refine nx ?_
         refine rtU [] (hu := ?_)
         exact ⟨z3B, .inl rfl, .inl rfl, trivial⟩
       · exfalso
         change (bif (z0U (z0A (c, k, m)) (z0A (2, 0, true)) != true) then (z0U (z0A (c, k, m)) (z0A (2, 1, true)) != true) else false) = false at hc
         rw [eqT, eqT, decide_eq_false (fun h => h2 (.inl h)), decide_eq_false (fun h => h2 (.inr h))] at hc
         exact absurd hc (by decide)
   · rw [if_neg h1]
     dsimp only
     rw [if_neg h1]
     show Ct _ _ _ _ (.tup [rwA false ([], []), lv (.int .i64 (p : Int)), lv (.int .i64 er)]) _ _
     refine z00 Tryz.func58 rfl rfl rfl rfl rfl (fun E hn hb => ?_)
     repeat refine nx ?_
     refine rtU [] (hu := ?_)
     exact ⟨z3B, .inl rfl, .inl rfl, trivial⟩

theorem zgR {x : List Int} (hw : WfB x) (hl : x.length ≤ 98000) (p : Nat) (t : z0m) : z9k (z0o none x p t z41).1 := by
 rw [← z4n none x p t z8O]
 rcases z34 none x p t z2P with h | ⟨y, h1, h2, h3, h⟩
 · rw [h]; trivial
 · rw [h]; exact zeF (fun z hz => hw z (h2 z hz)) (by omega)
theorem zgS (x : List Int) (p : Nat) (t : z0m) : (z0o [] x p t z1U).1.length ≤ 32 := by
 rcases z34 [] x p t z1U with h | ⟨y, h1, h2, h3, h⟩
 · rw [h]; simp
 · rw [h]; exact zbc y
theorem z3t : z27 (.agg [.lf (.v (.bool false)), z2I, z2I, z2I, z2I]) (z5x (none, [], [])) := ⟨.inl rfl, .inr ⟨rfl, .inr ⟨_, rfl⟩⟩, .inr ⟨rfl, .inr ⟨_, rfl⟩⟩, .inr ⟨rfl, .inl ⟨_, rfl⟩⟩, .inr ⟨rfl, .inr ⟨_, rfl⟩⟩, trivial⟩
theorem zcl (a : Option WhT) (b : List Int) : z27 (.agg [.lf (.v (.bool a.isSome)), .lf (.recs 3 (gnR (whD a).1)), .lf (z1t (whD a).2), .lf (.ints .i64 b), z2I]) (z5x (a, b, [])) := ⟨.inl rfl, .inl rfl, .inl rfl, .inl rfl, .inr ⟨rfl, .inr ⟨_, rfl⟩⟩, trivial⟩
set_option maxHeartbeats 16000000 in
theorem z6y (l : List Int) (p : Nat) (hp : p ≤ l.length) (hl : l.length ≤ 98000) (hw : WfB l) : Ct Tryz.prog 15 [B8 l, lv (.int .i64 (p : Int))] [] (.tup [z5x (z1H l p).1, lv (.int .i64 ((z1H l p).2.1 : Int)), lv (.int .i64 (z1H l p).2.2)]) [] [] := by
 have hof := z2u 16
 have hop := z2t l p (ofT 16) hp (by omega) hw
 have hom := z0w l p (ofT 16)
 unfold z1H
 dsimp only
 generalize z0g l p (ofT 16) = X at *
 obtain ⟨x, q, e⟩ := X
 dsimp only at *
 by_cases he : e = 0
 · subst he
   rw [if_pos rfl]
   have hwx : WfB x := fun z hz => hw z (hom.2 z hz)
   unfold z6m
   dsimp only
   have hA := zeH x 0 (Nat.zero_le _) (by omega) hwx
   have hA2 := z56 none x 0 (2, 0, true) z41 (Nat.zero_le _)
   have hA3 := zgR hwx (by omega) 0 (2, 0, true)
   unfold rwE z97 at hA
   generalize z0o none x 0 (2, 0, true) z41 = A at *
   obtain ⟨a, pa, ea⟩ := A
   dsimp only at *
   by_cases hea : ea = 0
   · subst hea
     rw [if_pos rfl] at hA
     rw [if_pos rfl]
     have hB := zd5 x pa 1 hA2.2 (by omega) hwx
     have hB2 := z56 [] x pa (2, 1, false) z1U hA2.2
     have hB3 := zgS x pa (2, 1, false)
     unfold z97 at hB
     generalize z0o [] x pa (2, 1, false) z1U = B at *
     obtain ⟨b, pb, eb⟩ := B
     dsimp only at *
     by_cases heb : eb = 0
     · subst heb
       rw [if_pos rfl] at hB
       rw [if_pos rfl]
       have hN := z7R x pb 2 true hB2.2 (by omega) hwx
       have hm := z60 x pb (2, 2, true)
       have hno := @z96 x pb (2, 2, true)
       have hyes := @z7S x pb (2, 2, true)
       rw [z6L]
       generalize z1j x pb (2, 2, true) = N at *
       obtain ⟨y, qn, T, en⟩ := N
       dsimp only at *
       cases T with
       | false =>
         obtain ⟨rfl, rfl⟩ := hno Bool.false_ne_true
         rw [if_neg Bool.false_ne_true]
         dsimp only
         clear hno hyes hm
         by_cases hen : en = 0
         · subst hen
           rw [if_pos rfl]
           by_cases hlt : qn < x.length
           · rw [if_pos hlt]
             dsimp only
             rw [if_neg (by decide : ¬ (7 : Int) = 0)]
             refine z00 Tryz.func15 rfl rfl rfl rfl rfl (fun E hn hb => ?_)
             repeat (first | refine nx ?_ | refine wgF (lv (.bool false)) hn ?_)
             refine rtU [] (hu := ?_)
             exact ⟨z3t, .inl rfl, .inl rfl, trivial⟩
           · rw [if_neg hlt]
             have hB4 := z8k (a, b, []) ⟨hA3, by dsimp only; omega, Nat.zero_le _, fun z hz => absurd hz (by simp)⟩
             have hB4 := z6J (args' := [.agg [.lf (.v (.bool a.isSome)), .lf (.recs 3 (gnR (whD a).1)), .lf (z1t (whD a).2), .lf (.ints .i64 b), z2I]]) hB4 ⟨zcl a b, trivial⟩
             generalize z6l (a, b, []) = K at *
             cases K with
             | true =>
               rw [if_pos rfl]
               dsimp only
               rw [if_pos rfl]
               refine z00 Tryz.func15 rfl rfl rfl rfl rfl (fun E hn hb => ?_)
               repeat (first | refine nx ?_ | refine wgF (lv (.bool false)) hn ?_)
               refine rtU [] (hu := ?_)
               exact ⟨zcl a b, .inl rfl, .inl rfl, trivial⟩
             | false =>
               rw [if_neg Bool.false_ne_true]
               dsimp only
               rw [if_neg (by decide : ¬ (6 : Int) = 0)]
               refine z00 Tryz.func15 rfl rfl rfl rfl rfl (fun E hn hb => ?_)
               repeat (first | refine nx ?_ | refine wgF (lv (.bool false)) hn ?_)
               refine rtU [] (hu := ?_)
               exact ⟨z3t, .inl rfl, .inl rfl, trivial⟩
         · rw [if_neg hen]
           dsimp only
           rw [if_neg hen]
           have hz : (en == 0) = false := beq_eq_false_iff_ne.2 hen
           refine z00 Tryz.func15 rfl rfl rfl rfl rfl (fun E hn hb => ?_)
           repeat (first | refine nx ?_ | rw [hz] | refine wgF (lv (.bool false)) hn ?_)
           refine rtU [] (hu := ?_)
           exact ⟨z3t, .inl rfl, .inl rfl, trivial⟩
       | true =>
         obtain rfl := hyes rfl
         rw [if_pos rfl]
         clear hno hyes
         have hwy : WfB y := fun z hz => hwx z (hm.2 z hz)
         have hG := z7b y (by omega) hwy
         have hgb := @z8V y (z0y y).1 (z0y y).2.1 hwy
         have hg3 := @z9l y hwy (by omega)
         generalize z0y y = G at *
         obtain ⟨g, gs, ge⟩ := G
         dsimp only at *
         by_cases hge : ge = 0
         · subst hge
           obtain ⟨_, h5, _⟩ := hgb rfl
           have hg3 := hg3 rfl
           subst h5
           rw [if_pos rfl, if_neg (Nat.lt_irrefl _)]
           dsimp only
           rw [if_pos rfl]
           by_cases hlt : qn < x.length
           · rw [if_pos hlt]
             dsimp only
             rw [if_neg (by decide : ¬ (7 : Int) = 0)]
             refine z00 Tryz.func15 rfl rfl rfl rfl rfl (fun E hn hb => ?_)
             repeat (first | refine nx ?_ | refine wgF (lv (.bool false)) hn ?_)
             refine rtU [] (hu := ?_)
             exact ⟨z3t, .inl rfl, .inl rfl, trivial⟩
           · rw [if_neg hlt]
             have hB4 := z8k (a, b, g) ⟨hA3, by dsimp only; omega, by dsimp only; omega, hg3.1⟩
             generalize z6l (a, b, g) = K at *
             cases K with
             | true =>
               rw [if_pos rfl]
               dsimp only
               rw [if_pos rfl]
               refine z00 Tryz.func15 rfl rfl rfl rfl rfl (fun E hn hb => ?_)
               repeat (first | refine nx ?_ | refine wgF (lv (.bool false)) hn ?_)
               exact rt1 []
             | false =>
               rw [if_neg Bool.false_ne_true]
               dsimp only
               rw [if_neg (by decide : ¬ (6 : Int) = 0)]
               refine z00 Tryz.func15 rfl rfl rfl rfl rfl (fun E hn hb => ?_)
               repeat (first | refine nx ?_ | refine wgF (lv (.bool false)) hn ?_)
               refine rtU [] (hu := ?_)
               exact ⟨z3t, .inl rfl, .inl rfl, trivial⟩
         · rw [if_neg hge]
           dsimp only
           rw [if_neg hge]
           dsimp only
           rw [if_neg hge]
           have hz : (ge == 0) = false := beq_eq_false_iff_ne.2 hge
           refine z00 Tryz.func15 rfl rfl rfl rfl rfl (fun E hn hb => ?_)
           repeat (first | refine nx ?_ | rw [hz] | refine wgF (lv (.bool false)) hn ?_)
           refine rtU [] (hu := ?_)
           exact ⟨z3t, .inl rfl, .inl rfl, trivial⟩
     · rw [if_neg heb] at hB
       rw [if_neg heb]
       dsimp only
       rw [if_neg heb]
       have hz : (eb == 0) = false := beq_eq_false_iff_ne.2 heb
       refine z00 Tryz.func15 rfl rfl rfl rfl rfl (fun E hn hb => ?_)
       repeat (first | refine nx ?_ | rw [hz] | refine wgF (lv (.bool false)) hn ?_)
       refine rtU [] (hu := ?_)
       exact ⟨z3t, .inl rfl, .inl rfl, trivial⟩
   · rw [if_neg hea] at hA
     rw [if_neg hea]
     dsimp only
     rw [if_neg hea]
     have hz : (ea == 0) = false := beq_eq_false_iff_ne.2 hea
     refine z00 Tryz.func15 rfl rfl rfl rfl rfl (fun E hn hb => ?_)
     repeat (first | refine nx ?_ | rw [hz] | refine wgF (lv (.bool false)) hn ?_)
     refine rtU [] (hu := ?_)
     exact ⟨z3t, .inl rfl, .inl rfl, trivial⟩
 · rw [if_neg he]
   refine z00 Tryz.func15 rfl rfl rfl rfl rfl (fun E hn hb => ?_)
   repeat (first | refine nx ?_ | refine wgF (lv (.bool false)) hn ?_)
   refine rtU [] (hu := ?_)
   exact ⟨z3t, .inl rfl, .inl rfl, trivial⟩

abbrev zmi (p : PtT) : List Leaf := [.v (.bool p.1.isSome), .recs 3 (gnR (whD p.1).1), z1t (whD p.1).2, .ints .i64 p.2.1, .recs 3 (gnR p.2.2)]
abbrev z6f (l : List PtT) : List (List Leaf) := l.map zmi
abbrev zgb (l : List PtT) : Av := .c (.lf (.recs 5 (z6f l)))
theorem z9M (l : List PtT) (g : PtT) : z6f (l ++ [g]) = z6f l ++ [zmi g] := List.map_append
set_option maxHeartbeats 16000000 in
theorem z9m (l : List Int) (p : Nat) (hp : p ≤ l.length) (hl : l.length ≤ 98000) (hw : WfB l) : Ct Tryz.prog 17 [B8 l, lv (.int .i64 (p : Int))] [] (.tup [zgb (z3F l p).1, lv (.int .i64 ((z3F l p).2.1 : Int)), lv (.int .i64 (z3F l p).2.2)]) [] [] := by
 have hof := z2u 16
 have hop := z2t l p (ofT 16) hp (by omega) hw
 have hom := z0w l p (ofT 16)
 unfold z3F
 dsimp only
 generalize z0g l p (ofT 16) = X at *
 obtain ⟨x, q, e⟩ := X
 dsimp only at *
 by_cases he : e = 0
 · subst he
   rw [if_pos rfl]
   have hwx : WfB x := fun z hz => hw z (hom.2 z hz)
   by_cases h0 : x = []
   · subst h0
     rw [if_pos (show ([] : List Int).length = 0 from rfl)]
     refine z00 Tryz.func17 rfl rfl rfl rfl rfl (fun E hn hb => ?_)
     repeat refine nx ?_
     exact rtU []
   have hpos : 0 < x.length := List.length_pos_iff.2 h0
   rw [if_neg (by omega)]
   obtain ⟨R, hR⟩ : ∃ R, z36 x (x.length + 1) 0 [] = R := ⟨_, rfl⟩
   rw [hR]
   refine z00 Tryz.func17 rfl rfl rfl rfl rfl (fun E hn hb => ?_)
   repeat refine nx ?_
   refine z10 10 900 5 (.recs 5 []) rfl rfl (.inr (.inr ⟨_, rfl⟩)) ?_
   refine z0a (St.le_of (l := [(1, lv (.int .i64 (p : Int))), (7, B8 x), (8, lv (.int .i64 (q : Int))), (10, .c (.own 900 5 0 (z6f []).length)), (11, lv (.int .i64 ((0 : Nat) : Int)))]) (h := [(900, .row (.recs 5 (z6f [])))]) (by refine ⟨?_, ?_⟩ <;> (repeat' (first | exact trivial | exact rfl | refine ⟨?_, ?_⟩)) <;> first | exact rfl | (simp; done) | skip)) ?_
   refine z0j (ι := {s : Nat × Nat × List PtT // s.2.1 ≤ x.length ∧ x.length - s.2.1 < s.1 ∧ s.2.2.length ≤ 10000 ∧ z36 x s.1 s.2.1 s.2.2 = R}) (fun s => St.of [(1, lv (.int .i64 (p : Int))), (7, B8 x), (8, lv (.int .i64 (q : Int))), (10, .c (.own 900 5 0 (z6f s.1.2.2).length)), (11, lv (.int .i64 (s.1.2.1 : Int)))] [(900, .row (.recs 5 (z6f s.1.2.2)))]) (fun s => s.1.1) (fun s => ?_) ⟨(x.length + 1, 0, []), Nat.zero_le _, by dsimp only; omega, by simp, hR⟩
   obtain ⟨⟨f, pp, acc⟩, hpp, hf, h16, hx⟩ := s
   dsimp only at hpp hf h16 hx ⊢
   obtain ⟨f, rfl⟩ : ∃ m, f = m + 1 := ⟨f - 1, by omega⟩
   have hml : (z6f acc).length = acc.length := List.length_map ..
   rw [z36] at hx
   by_cases hlt : pp < x.length
   · rw [if_pos hlt] at hx
     by_cases h6 : acc.length = 10000
     · rw [if_pos h6] at hx
       subst hx
       repeat refine nx ?_
       exact rtU []
     · rw [if_neg h6] at hx
       have hrd := z6y x pp hpp (by omega) hwx
       have hle := z9o x pp hpp
       have hps := @zaJ x pp (z1H x pp).2.1 (z1H x pp).1 hwx hpp
       generalize z1H x pp = S at *
       obtain ⟨⟨w, r, g⟩, q1, e1⟩ := S
       dsimp only at hrd hx hle hps
       by_cases he1 : e1 = 0
       · subst he1
         rw [if_pos rfl] at hx
         have hps := hps rfl
         repeat refine nx ?_
         refine z06 ⟨(f, q1, acc ++ [(w, r, g)]), hle.2, by dsimp only; omega, by simp; omega, hx⟩ (by dsimp only; omega) (St.le_of ⟨⟨rfl, rfl, rfl, ?_, rfl⟩, ?_⟩)
         · dsimp only; rw [z9M]; rfl
         · dsimp only; rw [z9M]; rfl
       · rw [if_neg he1] at hx
         subst hx
         rw [if_neg he1]
         repeat refine nx ?_
         exact rtU []
   · rw [if_neg hlt] at hx
     subst hx
     repeat refine nx ?_
     refine z2O 4 ?_
     exact rt1 []
 · rw [if_neg he]
   refine z00 Tryz.func17 rfl rfl rfl rfl rfl (fun E hn hb => ?_)
   repeat refine nx ?_
   exact rtU []
end Go.Proofs.YtaagjnlkinojcaaGreat

/-
  The layer: contracts that take lent rows away: such a row may come back as a new one. No condition.
-/
import Derived.Test.YtaagjnlkinojcaaGreatC1
namespace Go.Sx
open Go
set_option linter.unusedVariables false
set_option linter.unusedSimpArgs false
structure OutM (w0 : World) (M F0 : Nat → Prop) (nb nn : Nat) (G : Nat → Prop) (β β' : Nat → Option Nat) (F' : Nat → Prop) (w : World) : Prop where
 hb : ∀ i, i < nb → β' i = β i
 inj : ∀ i j g, i < nb + nn → j < nb + nn → ¬ G i → ¬ G j → β' i = some g → β' j = some g → i = j
 own : ∀ j g, j < nb + nn → ¬ G j → β' j = some g → g < w.heap.size ∧ ¬ F' g
 lt : ∀ j g, j < nb + nn → β' j = some g → g < w.heap.size
 new : ∀ i g, i < nn → β' (nb + i) = some g → w0.heap.size ≤ g ∨ ∃ j, j < nb ∧ G j ∧ β j = some g
 fr : ∀ b, F' b → b < w.heap.size ∧ (F0 b ∨ w0.heap.size ≤ b)
 keep : Keep w0 M w
def z1x (bor' : List Blk) (i : Nat) : Prop := bor'[i]? = some .gone
def CtM (P : Program) (f : FuncId) (args : List Av) (bor : List Blk) (res : Av) (bor' news : List Blk) : Prop :=
 bor'.length = bor.length ∧ (∃ fn, P.funcs[f]? = some fn ∧ (fn.name == "runtime.NumGoroutine") = false ∧ fn.body.isNone = false) ∧
 ∀ (w : World) (β : Nat → Option Nat) (F : Nat → Prop) (vs : List Value), vs.length = args.length → (∀ (i : Nat) (x : Av) (v : Value), args[i]? = some x → vs[i]? = some v → AvR β F w x v) →
   (∀ i b, bor[i]? = some b → z0k β F w i b ∧ b ≠ .gone) → (∀ i j g, i < bor.length → j < bor.length → β i = some g → β j = some g → i = j) →
   (∀ j g, j < bor.length → β j = some g → g < w.heap.size ∧ ¬ F g) → (∀ j, bor.length ≤ j → β j = none) → (∀ b, F b → b < w.heap.size) → GdK w (fun g => ∃ i, i < bor.length ∧ β i = some g) →
   Calls P f vs.toArray w fun e w' => ∃ v β' F', e = .returned v ∧ AvR β' F' w' res v ∧ (∀ i b, bor'[i]? = some b → z0k β' F' w' i b) ∧ (∀ i b, news[i]? = some b → z0k β' F' w' (bor.length + i) b) ∧
     OutM w (fun g => ∃ i, i < bor.length ∧ β i = some g) F bor.length news.length (z1x bor') β β' F' w'
structure FinM (σ : St) (r : Av) (nb : Nat) (ks : List Nat) (res : Av) (bor' news : List Blk) : Prop where
 fres : r = res.ren (rho nb ks)
 fbor : z03 ((z0f 0 bor').map fun p => p.2 = .gone ∨ σ.hp p.1 = p.2.ren (rho nb ks))
 fnews : z03 ((z0f nb news).map fun p => σ.hp (rho nb ks p.1) = p.2.ren (rho nb ks))
 fok : (res.ok (nb + news.length) && bor'.all (Blk.ok (nb + news.length)) && news.all (Blk.ok (nb + news.length)) && news.all (fun b => match b with | .gone => false | _ => true) && Nat.beq ks.length news.length && ks.all (fun k => Nat.ble 64 k || (Nat.blt k nb && (match bor'[k]? with | some .gone => true | _ => false))) && decide ks.Nodup) = true
theorem z2y {P : Program} {f : FuncId} {fn : Func} {c : Code} {args : List Av} {bor : List Blk} {res : Av} {bor' news : List Blk} (hf : P.funcs[f]? = some fn) (hb : fn.body = some c)
   (hnm : (fn.name == "runtime.NumGoroutine") = false) (hn : decide (args.length ≤ fn.ntmps) = true) (hnb : Nat.ble bor.length 64 = true) (hlen : Nat.beq bor'.length bor.length = true)
   (h : ∀ E : Env, E.n = fn.ntmps → E.nb = bor.length →
     W P E c (bodyPost P fn fun e w' => ∃ v β' F', e = .returned v ∧ AvR β' F' w' res v ∧ (∀ i b, bor'[i]? = some b → z0k β' F' w' i b) ∧ (∀ i b, news[i]? = some b → z0k β' F' w' (bor.length + i) b) ∧
       OutM E.w0 E.M E.F0 bor.length news.length (z1x bor') E.β0 β' F' w') (.of (z0f 0 args) (z0f 0 bor))) : CtM P f args bor res bor' news := by
 refine ⟨Nat.eq_of_beq_eq_true hlen, ⟨fn, hf, hnm, by rw [hb]; rfl⟩, fun w β F vs hvl hvs hbor hinj hown hnone hF hgd => ?_⟩
 have hn' : args.length ≤ fn.ntmps := by simpa using hn
 have hnb' : bor.length ≤ 64 := by simpa using hnb
 refine calls_of_wp hf hb (h ⟨w, fun g => ∃ i, i < bor.length ∧ β i = some g, F, fn.ntmps, bor.length, β, fun g h => h, hgd⟩ rfl rfl _ w ⟨β, F, fun i => ?_, ?_, rfl, fun j => ?_, fun i j g hi hj => ?_, fun j g hj e => ?_, fun j g e => ?_, fun b hb => ⟨hF b hb, .inl hb⟩, .refl _ _, fun i _ => rfl, hnb'⟩)
 · simp only [St.of, z2h, Nat.zero_le, if_true, Nat.sub_zero]
   by_cases hi : i < args.length
   · have h1 : args[i]? = some args[i] := by simp [hi]
     have h2 : i < vs.length := by omega
     rw [h1]
     simp only [Option.getD_some]
     refine hvs i args[i] _ h1 ?_
     simp [Array.getElem?_append, h2]
   · have h1 : args[i]? = none := by simp; omega
     rw [h1]
     exact .any _
 · simp [hvl]; omega
 · simp only [St.of, z2h, Nat.zero_le, if_true, Nat.sub_zero]
   cases hb : bor[j]? with
   | none => trivial
   | some b => exact (hbor j b hb).1
 · intro e1 e2
   simp only [St.of, z2h, Nat.zero_le, if_true, Nat.sub_zero] at hi hj
   have hi' : i < bor.length := by
     rcases Nat.lt_or_ge i bor.length with h | h
     · exact h
     · rw [List.getElem?_eq_none h] at hi; exact absurd rfl hi
   have hj' : j < bor.length := by
     rcases Nat.lt_or_ge j bor.length with h | h
     · exact h
     · rw [List.getElem?_eq_none h] at hj; exact absurd rfl hj
   exact hinj i j g hi' hj' e1 e2
 · have hj' : j < bor.length := by
     simp only [St.of, z2h, Nat.zero_le, if_true, Nat.sub_zero] at hj
     rcases Nat.lt_or_ge j bor.length with h | h
     · exact h
     · rw [List.getElem?_eq_none h] at hj; exact absurd rfl hj
   obtain ⟨a1, a2⟩ := hown j g hj' e
   exact ⟨a1, .inr ⟨j, hj', e⟩, a2⟩
 · rcases Nat.lt_or_ge j bor.length with h | h
   · exact (hown j g h e).1
   · rw [hnone j h] at e; cases e
theorem z7r {E : Env} {σ : St} {a : Act} {w : World} {β : Nat → Option Nat} {F : Nat → Prop} {r : Av} {v : Value} {ks : List Nat} {res : Av} {bor' news : List Blk} {nb : Nat} (hS : SRb E β F σ a w) (hr : AvR β F w r v)
   (hnb : E.nb = nb) (hlb : bor'.length = nb) (hf : FinM σ r nb ks res bor' news) :
   ∃ β' F', AvR β' F' w res v ∧ (∀ i b, bor'[i]? = some b → z0k β' F' w i b) ∧ (∀ i b, news[i]? = some b → z0k β' F' w (nb + i) b) ∧ OutM E.w0 E.M E.F0 nb news.length (z1x bor') E.β0 β' F' w := by
 obtain ⟨f1, f2, f3, f4⟩ := hf
 simp only [Bool.and_eq_true] at f4
 obtain ⟨⟨⟨⟨⟨⟨o1, o2⟩, o3⟩, o4⟩, o5⟩, o6⟩, o7⟩ := f4
 have hkl : ks.length = news.length := Nat.eq_of_beq_eq_true o5
 have hnd : ks.Nodup := by simpa using o7
 have hρ1 : ∀ i, i < nb → rho nb ks i = i := fun i hi => by simp only [rho, show Nat.blt i nb = true from Nat.blt_eq.symm ▸ hi]
 have hρ2 : ∀ i, i < news.length → rho nb ks (nb + i) = ks.getD i 0 := fun i hi => by
   have : Nat.blt (nb + i) nb = false := by
     cases h : Nat.blt (nb + i) nb with
     | false => rfl
     | true => rw [Nat.blt_eq] at h; omega
   simp only [rho, this, Nat.add_sub_cancel_left]
 have hB1 : ∀ i b, bor'[i]? = some b → b = .gone ∨ σ.hp i = b.ren (rho nb ks) := fun i b hi => by
   have := z19 f2 _ (z1R bor' 0 i b hi)
   simpa using this
 have hB2 : ∀ i b, news[i]? = some b → σ.hp (rho nb ks (nb + i)) = b.ren (rho nb ks) := fun i b hi => by
   have := z19 f3 _ (z1R news nb i b hi)
   simpa using this
 have hren : ∀ b : Blk, b ≠ .gone → b.ren (rho nb ks) ≠ .gone := by intro b hb; cases b <;> simp_all [Blk.ren]
 have hl1 : ∀ i, i < nb → ¬ z1x bor' i → σ.hp i ≠ .gone := fun i hi hg => by
   have h1 : bor'[i]? = some (bor'[i]'(by omega)) := by simp [show i < bor'.length by omega]
   rcases hB1 i _ h1 with h | h
   · exact absurd (by unfold z1x; rw [h1, h]) hg
   · rw [h]
     exact hren _ (fun e => hg (by unfold z1x; rw [h1, e]))
 have hl2 : ∀ i, i < news.length → σ.hp (rho nb ks (nb + i)) ≠ .gone := fun i hi => by
   have h1 : news[i]? = some news[i] := by simp [hi]
   rw [hB2 i _ h1]
   refine hren _ ?_
   have := List.all_eq_true.1 o4 news[i] (List.getElem_mem hi)
   intro e
   rw [e] at this
   cases this
 have hk64 : ∀ i, i < news.length → 64 ≤ rho nb ks (nb + i) ∨ (rho nb ks (nb + i) < nb ∧ z1x bor' (rho nb ks (nb + i))) := fun i hi => by
   rw [hρ2 i hi]
   have hm : ks.getD i 0 ∈ ks := by
     rw [List.getD_eq_getElem?_getD, List.getElem?_eq_getElem (by omega), Option.getD_some]
     exact List.getElem_mem _
   have h6 := List.all_eq_true.1 o6 _ hm
   generalize ks.getD i 0 = k at *
   rcases Bool.or_eq_true_iff.1 h6 with h6 | h6
   · exact .inl (by simpa using h6)
   · obtain ⟨h7, h8⟩ := (Bool.and_eq_true_iff).1 h6
     refine .inr ⟨by rwa [Nat.blt_eq] at h7, ?_⟩
     unfold z1x
     revert h8
     cases bor'[k]? with
     | none => intro h; cases h
     | some b => cases b <;> intro h <;> first | rfl | cases h
 have hlive' : ∀ i, i < nb + news.length → ¬ z1x bor' i → σ.hp (rho nb ks i) ≠ .gone := fun i hi hg => by
   rcases Nat.lt_or_ge i nb with h | h
   · rw [hρ1 i h]; exact hl1 i h hg
   · obtain ⟨d, rfl⟩ : ∃ d, i = nb + d := ⟨i - nb, by omega⟩
     exact hl2 d (by omega)
 have hρinj : ∀ i j, i < nb + news.length → j < nb + news.length → ¬ z1x bor' i → ¬ z1x bor' j → rho nb ks i = rho nb ks j → i = j := fun i j hi hj gi gj e => by
   have hn64 := hS.nbl
   rcases Nat.lt_or_ge i nb with h | h
   · rcases Nat.lt_or_ge j nb with h' | h'
     · rw [hρ1 i h, hρ1 j h'] at e; exact e
     · obtain ⟨d, rfl⟩ : ∃ d, j = nb + d := ⟨j - nb, by omega⟩
       have := hk64 d (by omega)
       rw [← e, hρ1 i h] at this
       rcases this with this | this
       · omega
       · exact absurd this.2 gi
   · obtain ⟨d, rfl⟩ : ∃ d, i = nb + d := ⟨i - nb, by omega⟩
     rcases Nat.lt_or_ge j nb with h' | h'
     · have := hk64 d (by omega)
       rw [e, hρ1 j h'] at this
       rcases this with this | this
       · omega
       · exact absurd this.2 gj
     · obtain ⟨d', rfl⟩ : ∃ d, j = nb + d := ⟨j - nb, by omega⟩
       rw [hρ2 d (by omega), hρ2 d' (by omega)] at e
       rw [List.getD_eq_getElem?_getD, List.getD_eq_getElem?_getD, List.getElem?_eq_getElem (by omega), List.getElem?_eq_getElem (by omega), Option.getD_some, Option.getD_some] at e
       have := (List.getElem_inj hnd).1 e
       omega
 refine ⟨fun i => β (rho nb ks i), F, (f1 ▸ hr).unren (fun _ _ => rfl) o1, fun i b hi => ?_, fun i b hi => ?_, fun i hi => ?_, fun i j g hi hj gi gj e1 e2 => hρinj i j hi hj gi gj (hS.inj _ _ g (hlive' i hi gi) (hlive' j hj gj) e1 e2), fun j g hj gj e => ?_, fun j g hj e => hS.lt _ g e, fun i g hi e => ?_, hS.fr, hS.keep⟩
 · have hlt : i < nb := by rw [← hlb]; exact (List.getElem?_eq_some_iff.1 hi).1
   refine z0k.unren (ρ := rho nb ks) (n := nb + news.length) (fun _ _ => rfl) ?_ (by omega) (List.all_eq_true.1 o2 b (List.mem_of_getElem? hi))
   rcases hB1 i b hi with h | h
   · subst h; trivial
   · rw [hρ1 i hlt, ← h]
     exact hS.hp i
 · refine z0k.unren (ρ := rho nb ks) (n := nb + news.length) (fun _ _ => rfl) ?_ (by have := (List.getElem?_eq_some_iff.1 hi).1; omega) (List.all_eq_true.1 o3 b (List.mem_of_getElem? hi))
   rw [← hB2 i b hi]
   exact hS.hp _
 · simp only [hρ1 i hi]
   exact hS.bb i (by omega)
 · obtain ⟨a1, _, a3⟩ := hS.own _ g (hlive' j hj gj) e
   exact ⟨a1, a3⟩
 · obtain ⟨_, a2, _⟩ := hS.own _ g (hl2 i hi) e
   rcases a2 with a2 | a2
   · exact .inl a2
   · obtain ⟨k, hk, hk'⟩ := E.hM g a2
     rw [hnb] at hk
     by_cases gk : z1x bor' k
     · exact .inr ⟨k, hk, gk, hk'⟩
     exfalso
     have e' : β k = some g := (hS.bb k (by omega)).trans hk'
     have hik := hS.inj _ _ g (hl2 i hi) (hl1 k hk gk) e e'
     have h64 := hk64 i hi
     have := hS.nbl
     rcases h64 with h64 | h64
     · omega
     · exact gk (hik ▸ h64.2)
theorem zlQ {P : Program} {E : Env} {σ : St} {fn : Func} {ps : List Prop} {r res : Av} {bor' news : List Blk} {nb : Nat} (ks : List Nat) (hr : z3G P σ fn.results.toList = some (ps, r)) (hp : z03 ps) (hf : FinM σ r nb ks res bor' news)
   (hnb : E.nb = nb) (hlb : bor'.length = nb) :
   N E (bodyPost P fn fun e w' => ∃ v β' F', e = .returned v ∧ AvR β' F' w' res v ∧ (∀ i b, bor'[i]? = some b → z0k β' F' w' i b) ∧ (∀ i b, news[i]? = some b → z0k β' F' w' (nb + i) b) ∧ OutM E.w0 E.M E.F0 nb news.length (z1x bor') E.β0 β' F' w') .ret σ := by
 intro a w hS
 obtain ⟨β, F, hS⟩ := hS
 obtain ⟨v, h1, h2⟩ := z3H hS hr hp
 obtain ⟨β', F', g1, g2, g3, g4⟩ := z7r hS h2 hnb hlb hf
 exact ⟨hS.df, v, h1, v, β', F', rfl, g1, g2, g3, g4⟩
theorem z53 {P : Program} {E : Env} {σ : St} {fn : Func} {ps : List Prop} {r res : Av} {bor' news : List Blk} {nb : Nat} (ks : List Nat) (hr : z3G P σ fn.results.toList = some (ps, r)) (hp : z03 ps) (hf : FinM σ r nb ks res bor' news)
   (hnb : E.nb = nb) (hlb : bor'.length = nb) :
   N E (bodyPost P fn fun e w' => ∃ v β' F', e = .returned v ∧ AvR β' F' w' res v ∧ (∀ i b, bor'[i]? = some b → z0k β' F' w' i b) ∧ (∀ i b, news[i]? = some b → z0k β' F' w' (nb + i) b) ∧ OutM E.w0 E.M E.F0 nb news.length (z1x bor') E.β0 β' F' w') .normal σ := by
 intro a w hS
 obtain ⟨β, F, hS⟩ := hS
 obtain ⟨v, h1, h2⟩ := z3H hS hr hp
 obtain ⟨β', F', g1, g2, g3, g4⟩ := z7r hS h2 hnb hlb hf
 exact ⟨hS.df, v, h1, v, β', F', rfl, g1, g2, g3, g4⟩
set_option maxHeartbeats 4000000 in
theorem z7s {P : Program} {E : Env} {σ : St} {a : Act} {w : World} {β : Nat → Option Nat} {F : Nat → Prop} {f : FuncId} {xs ys : List Av} {bor : List Blk} {res : Av} {bor' news : List Blk} {bs : List Nat} {d : Option Nat} {vs : List Value}
   (hF : CtM P f xs bor res bor' news) (hS : SRb E β F σ a w) (hnew : ∀ i, β (nk d i) = none ∨ news.length ≤ i) (hC : CallOk σ ys xs bor res bor' news bs d)
   (hvl : vs.length = ys.length) (hvs : ∀ (i : Nat) (y : Av) (v : Value), ys[i]? = some y → vs[i]? = some v → AvR β F w y v) :
   Calls P f vs.toArray w fun e w' => ∃ v, e = .returned v ∧ ∃ β' F', AvR β' F' w' (res.ren (z0s bs d news.length)) v ∧ (∀ (x : Cell) (u : Value), CellR β F w x u → CellR β' F' w' x u) ∧ (∀ j, j ∉ z05 d news.length → β' j = β j) ∧ SRb E β' F' (z0n σ bs d bor' news) a w' := by
 obtain ⟨hlen, _, hcall⟩ := hF
 obtain ⟨c1, c2, c3, c4⟩ := hC
 simp only [Bool.and_eq_true] at c4
 obtain ⟨⟨⟨⟨⟨⟨o1, o2⟩, o3⟩, o4⟩, o5⟩, o6⟩, o7⟩ := c4
 have hbl : bs.length = bor.length := Nat.eq_of_beq_eq_true o6
 have hnd : (bs ++ z05 d news.length).Nodup := by simpa using o7
 have hndb : bs.Nodup := (List.nodup_append.1 hnd).1
 have hndk : (z05 d news.length).Nodup := (List.nodup_append.1 hnd).2.1
 have hdis : ∀ j, j ∈ bs → j ∉ z05 d news.length := fun j hj hk => (List.nodup_append.1 hnd).2.2 j hj j hk rfl
 have hR1 : ∀ i, i < bs.length → z0s bs d news.length i = bs.getD i 0 := fun i hi => by
   simp only [z0s, show Nat.blt i bs.length = true from Nat.blt_eq.symm ▸ hi]
 have hR2 : ∀ i, z0s bs d news.length (bs.length + i) = nk d i := fun i => by
   have : Nat.blt (bs.length + i) bs.length = false := by
     cases h : Nat.blt (bs.length + i) bs.length with
     | false => rfl
     | true => rw [Nat.blt_eq] at h; omega
   simp only [z0s, this, Nat.add_sub_cancel_left]
 have hbget : ∀ i, i < bs.length → bs[i]? = some (bs.getD i 0) := fun i hi => by simp [hi]
 have hbmem : ∀ i, i < bs.length → bs.getD i 0 ∈ bs := fun i hi => List.mem_of_getElem? (hbget i hi)
 have hbinj : ∀ i j, i < bs.length → j < bs.length → bs.getD i 0 = bs.getD j 0 → i = j := fun i j hi hj e => by
   rw [List.getD_eq_getElem?_getD, List.getD_eq_getElem?_getD, List.getElem?_eq_getElem hi, List.getElem?_eq_getElem hj, Option.getD_some, Option.getD_some] at e
   exact (List.getElem_inj hndb).1 e
 have hbor : ∀ i b, bor[i]? = some b → σ.hp (bs.getD i 0) = b.ren (z0s bs d news.length) ∧ b ≠ .gone := fun i b hi => by
   have h1 := z19 c2 _ (z1R bor 0 i b hi)
   have h2 := z19 c3 _ (z1R bor 0 i b hi)
   exact ⟨by simpa using h1, by simpa using h2⟩
 have hren : ∀ b : Blk, b ≠ .gone → b.ren (z0s bs d news.length) ≠ .gone := fun b hb => Blk.ren_ne hb
 have hlive : ∀ i, i < bs.length → σ.hp (bs.getD i 0) ≠ .gone := fun i hi => by
   have h1 : bor[i]? = some (bor[i]'(by omega)) := by simp [show i < bor.length by omega]
   rw [(hbor i _ h1).1]
   exact hren _ (hbor i _ h1).2
 -- the numbers as the contract sees them
 let βc : Nat → Option Nat := fun i => if i < bs.length then β (bs.getD i 0) else none
 have hβc : ∀ i, i < bs.length → β (z0s bs d news.length i) = βc i := fun i hi => by
   simp only [βc, hi, if_true, hR1 i hi]
 refine (hcall w βc F vs (by rw [hvl, c1]; simp) (fun i x v hx hv => ?_) (fun i b hi => ?_) (fun i j g hi hj e1 e2 => ?_) (fun j g hj e => ?_) (fun j hj => ?_) (fun b hb => (hS.fr b hb).1) (hS.gd fun g hg => ?_)).mono ?_
 · have hy : ys[i]? = some (x.ren (z0s bs d news.length)) := by rw [c1, List.getElem?_map, hx]; rfl
   exact (hvs i _ v hy hv).unren hβc (List.all_eq_true.1 o1 x (List.mem_of_getElem? hx))
 · obtain ⟨h1, h2⟩ := hbor i b hi
   have hlt : i < bs.length := by rw [hbl]; exact (List.getElem?_eq_some_iff.1 hi).1
   refine ⟨?_, h2⟩
   refine z0k.unren (ρ := z0s bs d news.length) hβc ?_ hlt (List.all_eq_true.1 o2 b (List.mem_of_getElem? hi))
   rw [hR1 i hlt, ← h1]
   exact hS.hp _
 · simp only [βc, show i < bs.length by omega, show j < bs.length by omega, if_true] at e1 e2
   exact hbinj i j (by omega) (by omega) (hS.inj _ _ g (hlive i (by omega)) (hlive j (by omega)) e1 e2)
 · simp only [βc, show j < bs.length by omega, if_true] at e
   obtain ⟨a1, _, a3⟩ := hS.own _ g (hlive j (by omega)) e
   exact ⟨a1, a3⟩
 · simp only [βc, show ¬ j < bs.length by omega, if_false]
 · obtain ⟨i, hi, e⟩ := hg
   have hi' : i < bs.length := by omega
   simp only [βc, hi', if_true] at e
   exact ⟨_, hlive i hi', e⟩
 · rintro e w' ⟨v, β', F', rfl, hv, hb', hn', hO⟩
   refine ⟨v, rfl, ?_⟩
   obtain ⟨q1, q2, q3, q3', q4, q5, q6⟩ := hO
   -- the caller's numbers behind the call
   let β2 : Nat → Option Nat := fun j => if j ∈ z05 d news.length then β' (bs.length + (j - (64 + d.getD 0)) / 1000) else β j
   have hnkd : ∀ i, (nk d i - (64 + d.getD 0)) / 1000 = i := fun i => by simp only [nk]; omega
   have hβ2k : ∀ i, i < news.length → β2 (nk d i) = β' (bs.length + i) := fun i hi => by
     simp only [β2, (z0M news.length (nk d i)).2 ⟨i, hi, rfl⟩, if_true, hnkd]
   have hβ2o : ∀ j, j ∉ z05 d news.length → β2 j = β j := fun j hj => by simp only [β2, hj, if_false]
   have hβ2 : ∀ i, i < bs.length + news.length → β2 (z0s bs d news.length i) = β' i := fun i hi => by
     rcases Nat.lt_or_ge i bs.length with h | h
     · rw [hR1 i h, hβ2o _ (hdis _ (hbmem i h)), q1 i (by omega)]
       simp only [βc, h, if_true]
     · obtain ⟨k, rfl⟩ : ∃ k, i = bs.length + k := ⟨i - bs.length, by omega⟩
       rw [hR2 k, hβ2k k (by omega)]
   have hext : ∀ j g, β j = some g → β2 j = some g := fun j g hj => by
     by_cases hm : j ∈ z05 d news.length
     · obtain ⟨i, hi, rfl⟩ := (z0M _ _).1 hm
       rcases hnew i with h | h
       · rw [h] at hj; cases hj
       · omega
     · rw [hβ2o j hm]; exact hj
   have hMb : ∀ g, (∃ i, i < bor.length ∧ βc i = some g) → ∃ i, i < bs.length ∧ β (bs.getD i 0) = some g := by
     rintro g ⟨i, hi, e⟩
     refine ⟨i, by omega, ?_⟩
     simpa only [βc, show i < bs.length by omega, if_true] using e
   have hsame : ∀ k, k < w.heap.size → (∀ i, i < bs.length → β (bs.getD i 0) ≠ some k) → w'.heap[k]? = w.heap[k]? := fun k hk hnb => q6.block k hk fun hm => by
     obtain ⟨i, hi, e⟩ := hMb k hm
     exact hnb i hi e
   have hFs : ∀ b, F b → w'.heap[b]? = w.heap[b]? := fun b hb => hsame b (hS.fr b hb).1 fun i hi e => (hS.own _ b (hlive i hi) e).2.2 hb
   have hA : ∀ {x : Av} {u : Value}, AvR β F w x u → AvR β2 (fun b => F b ∨ F' b) w' x u := fun hx => hx.mono hext (fun b hb => ⟨.inl hb, hFs b hb⟩) q6.cap
   have hF' : ∀ b, F' b → F b ∨ w.heap.size ≤ b := fun b hb => (q5 b hb).2
   have hAv' : ∀ {x : Av} {u : Value}, AvR β' F' w' x u → AvR β' (fun b => F b ∨ F' b) w' x u := fun hx => hx.mono (fun _ _ h => h) (fun b hb => ⟨.inr hb, rfl⟩) (fun _ _ h => h)
   have hBlk' : ∀ {i : Nat} {b : Blk}, z0k β' F' w' i b → z0k β' (fun b => F b ∨ F' b) w' i b := fun {i b} hx => by
     cases b with
     | gone => trivial
     | map es =>
       obtain ⟨g, ms, ck, e1, e2, e3, e4⟩ := hx
       exact ⟨g, ms, ck, e1, e2, e3, fun i k x hx => let ⟨e, q1, q2, q3⟩ := e4 i k x hx; ⟨e, q1, q2, q3.mono fun b hb => ⟨.inr hb, rfl⟩⟩⟩
     | raw g ob =>
       exact hx
     | mapS g ms ck es =>
       obtain ⟨e1, e2, e3, e4⟩ := hx
       exact ⟨e1, e2, e3, fun i k x hx => let ⟨e, q1, q2, q3⟩ := e4 i k x hx; ⟨e, q1, q2, q3.mono fun b hb => ⟨.inr hb, rfl⟩⟩⟩
     | cells cs =>
       obtain ⟨g, cur, hg, hr, hsz, hc⟩ := hx
       exact ⟨g, cur, hg, hr, hsz, fun k x v hx hv => (hc k x v hx hv).mono (fun _ _ h => h) (fun b hb => ⟨.inr hb, rfl⟩) (fun _ _ h => h)⟩
     | fr vs cs =>
       obtain ⟨g, cur, hg, hr, hsz, hc⟩ := hx
       exact ⟨g, cur, hg, hr, hsz, fun k x v hx hv => (hc k x v hx hv).mono (fun _ _ h => h) (fun b hb => ⟨.inr hb, rfl⟩) (fun _ _ h => h)⟩
     | row dd =>
       cases dd with
       | ints k l => exact hx
       | recs sz l =>
         refine ⟨hx.1, ?_⟩
         rcases hx.2 with h | ⟨g, cur, hg, hr, hc⟩
         · exact .inl h
         · refine .inr ⟨g, cur, hg, hr, fun i r k x hi hk => ?_⟩
           obtain ⟨u, hu, hl⟩ := hc i r k x hi hk
           exact ⟨u, hu, hl.mono fun b hb => ⟨.inr hb, rfl⟩⟩
       | v => exact hx
       | obj => exact hx
   have hlenk : (z05 d news.length).length = (news.map (Blk.ren (z0s bs d news.length))).length := by simp [z5D]
   have hlenb : bs.length = (bor'.map (Blk.ren (z0s bs d news.length))).length := by simp; omega
   have hK : ∀ i, i < news.length → ∀ b, news[i]? = some b → (z0n σ bs d bor' news).hp (nk d i) = b.ren (z0s bs d news.length) := fun i hi b hb => by
     refine z3j _ _ _ _ (by rw [z1F _ _ hlenk]; exact hndk) (z4P _ _ i _ _ (z5t _ i hi) (by rw [List.getElem?_map, hb]; rfl))
   have hB : ∀ i, i < bs.length → ∀ b, bor'[i]? = some b → (z0n σ bs d bor' news).hp (bs.getD i 0) = b.ren (z0s bs d news.length) := fun i hi b hb => by
     unfold z0n
     rw [z3v _ _ _ (fun p hp e => ?_)]
     · exact z3j _ _ _ _ (by rw [z1F _ _ hlenb]; exact hndb) (z4P _ _ i _ _ (hbget i hi) (by rw [List.getElem?_map, hb]; rfl))
     · have : p.1 ∈ (z3r (z05 d news.length) (news.map (Blk.ren (z0s bs d news.length)))).map (·.1) := List.mem_map.2 ⟨p, hp, rfl⟩
       rw [z1F _ _ hlenk, e] at this
       exact hdis _ (hbmem i hi) this
   have hO' : ∀ j, j ∉ z05 d news.length → j ∉ bs → (z0n σ bs d bor' news).hp j = σ.hp j := fun j h1 h2 => by
     unfold z0n
     rw [z3v _ _ _ (fun p hp e => ?_), z3v _ _ _ (fun p hp e => ?_)]
     · have : p.1 ∈ (z3r bs (bor'.map (Blk.ren (z0s bs d news.length)))).map (·.1) := List.mem_map.2 ⟨p, hp, rfl⟩
       rw [z1F _ _ hlenb, e] at this
       exact h2 this
     · have : p.1 ∈ (z3r (z05 d news.length) (news.map (Blk.ren (z0s bs d news.length)))).map (·.1) := List.mem_map.2 ⟨p, hp, rfl⟩
       rw [z1F _ _ hlenk, e] at this
       exact h1 this
   have hcase : ∀ j, (∃ i, i < news.length ∧ j = nk d i) ∨ (j ∉ z05 d news.length ∧ ∃ i, i < bs.length ∧ j = bs.getD i 0) ∨ (j ∉ z05 d news.length ∧ j ∉ bs) := fun j => by
     by_cases h1 : j ∈ z05 d news.length
     · exact .inl ((z0M _ _).1 h1)
     · by_cases h2 : j ∈ bs
       · obtain ⟨i, hi, e⟩ := List.mem_iff_getElem.1 h2
         exact .inr (.inl ⟨h1, i, hi, by simp [hi, e]⟩)
       · exact .inr (.inr ⟨h1, h2⟩)
   have hG : ∀ i, i < bs.length + news.length → (z0n σ bs d bor' news).hp (z0s bs d news.length i) ≠ .gone → ¬ z1x bor' i := fun i hi hne hg => by
     rcases Nat.lt_or_ge i bs.length with h | h
     · rw [hR1 i h, hB i h _ hg] at hne
       exact hne rfl
     · unfold z1x at hg
       have := (List.getElem?_eq_some_iff.1 hg).1
       omega
   have hq4 : ∀ m g, m < news.length → β' (bs.length + m) = some g → w.heap.size ≤ g ∨ ∃ k, k < bs.length ∧ β (bs.getD k 0) = some g := fun m g hm e => by
     rcases q4 m g hm (by rw [← hbl]; exact e) with h | ⟨k, hk, _, hk'⟩
     · exact .inl h
     · exact .inr (hMb g ⟨k, hk, hk'⟩)
   -- a block of the contract, of the caller
   have hidx : ∀ j g, (z0n σ bs d bor' news).hp j ≠ .gone → β2 j = some g → (∃ i, i < bs.length + news.length ∧ j = z0s bs d news.length i ∧ β' i = some g ∧ ¬ z1x bor' i) ∨ (j ∉ z05 d news.length ∧ j ∉ bs ∧ σ.hp j ≠ .gone ∧ β j = some g) := fun j g hj e => by
     rcases hcase j with ⟨i, hi, rfl⟩ | ⟨h1, i, hi, rfl⟩ | ⟨h1, h2⟩
     · exact .inl ⟨bs.length + i, by omega, (hR2 i).symm, by rw [← hβ2k i hi]; exact e, hG _ (by omega) (by rw [hR2 i]; exact hj)⟩
     · refine .inl ⟨i, by omega, (hR1 i hi).symm, ?_, hG _ (by omega) (by rw [hR1 i hi]; exact hj)⟩
       rw [← hβ2 i (by omega), hR1 i hi]; exact e
     · refine .inr ⟨h1, h2, ?_, ?_⟩
       · rw [← hO' j h1 h2]; exact hj
       · rw [← hβ2o j h1]; exact e
   refine ⟨β2, fun b => F b ∨ F' b, (hAv' hv).ren hβ2 o3, fun x u hx => hx.mono hext (fun b hb => ⟨.inl hb, hFs b hb⟩) q6.cap, hβ2o, fun i => ?_, hS.sz, hS.df, fun j => ?_, fun i j g hi hj e1 e2 => ?_, fun j g hj e => ?_, fun j g e => ?_, fun b hb => ?_, ?_, fun i hi => ?_, hS.nbl⟩
   · have : (z0n σ bs d bor' news).tm = σ.tm := by unfold z0n; rw [z5C, z5C]
     rw [this]
     exact hA (hS.tm i)
   · rcases hcase j with ⟨i, hi, rfl⟩ | ⟨h1, i, hi, rfl⟩ | ⟨h1, h2⟩
     · have hb : news[i]? = some news[i] := by simp [hi]
       rw [hK i hi _ hb, ← hR2 i]
       have := hn' i _ hb
       rw [← hbl] at this
       exact (hBlk' this).ren hβ2 (by omega) (List.all_eq_true.1 o5 _ (List.getElem_mem hi))
     · have hb : bor'[i]? = some (bor'[i]'(by omega)) := by simp [show i < bor'.length by omega]
       rw [hB i hi _ hb, ← hR1 i hi]
       exact (hBlk' (hb' i _ hb)).ren hβ2 (by omega) (List.all_eq_true.1 o4 _ (List.getElem_mem _))
     · rw [hO' j h1 h2]
       by_cases hgone : σ.hp j = .gone
       · rw [hgone]; trivial
       · have := (hS.hp j).mono (β' := β2) (w' := w') hext (hβ2o j h1) hFs q6.cap (fun g hg => hsame g (hS.lt j g hg) fun i hi e => h2 (hS.inj j _ g hgone (hlive i hi) hg e ▸ hbmem i hi))
         revert this
         cases σ.hp j with
         | gone => exact fun _ => trivial
         | map es =>
           rintro ⟨g, ms, ck, e1, e2, e3, e4⟩
           exact ⟨g, ms, ck, e1, e2, e3, fun i k x hx => let ⟨e, q1, q2, q3⟩ := e4 i k x hx; ⟨e, q1, q2, q3.mono fun b hb => ⟨.inl hb, rfl⟩⟩⟩
         | raw g ob =>
           exact fun h => h
         | mapS g ms ck es =>
           rintro ⟨e1, e2, e3, e4⟩
           exact ⟨e1, e2, e3, fun i k x hx => let ⟨e, q1, q2, q3⟩ := e4 i k x hx; ⟨e, q1, q2, q3.mono fun b hb => ⟨.inl hb, rfl⟩⟩⟩
         | cells cs =>
           rintro ⟨g, cur, hg, hr, hsz, hc⟩
           exact ⟨g, cur, hg, hr, hsz, fun k x v hx hv => (hc k x v hx hv).mono (fun _ _ h => h) (fun b hb => ⟨.inl hb, rfl⟩) (fun _ _ h => h)⟩
         | fr vs cs =>
           rintro ⟨g, cur, hg, hr, hsz, hc⟩
           exact ⟨g, cur, hg, hr, hsz, fun k x v hx hv => (hc k x v hx hv).mono (fun _ _ h => h) (fun b hb => ⟨.inl hb, rfl⟩) (fun _ _ h => h)⟩
         | row dd =>
           cases dd with
           | ints k l => exact fun h => h
           | recs sz l =>
             rintro ⟨h0, h⟩
             refine ⟨h0, ?_⟩
             rcases h with h | ⟨g, cur, hg, hr, hc⟩
             · exact .inl h
             · refine .inr ⟨g, cur, hg, hr, fun i r k x hi hk => ?_⟩
               obtain ⟨u, hu, hl⟩ := hc i r k x hi hk
               exact ⟨u, hu, hl.mono fun b hb => ⟨.inl hb, rfl⟩⟩
           | v => exact fun h => h
           | obj => exact fun h => h
   · rcases hidx i g hi e1 with ⟨k, hk, rfl, e1', gk⟩ | ⟨h1, h2, h3, e1'⟩
     · rcases hidx j g hj e2 with ⟨k', hk', rfl, e2', gk'⟩ | ⟨h1', h2', h3', e2'⟩
       · rw [q2 k k' g (by omega) (by omega) gk gk' e1' e2']
       · exfalso
         rcases Nat.lt_or_ge k bs.length with hlt | hge
         · rw [q1 k (by omega)] at e1'
           simp only [βc, hlt, if_true] at e1'
           exact h2' (hS.inj j _ g h3' (hlive k hlt) e2' e1' ▸ hbmem k hlt)
         · obtain ⟨m, rfl⟩ : ∃ m, k = bs.length + m := ⟨k - bs.length, by omega⟩
           rcases hq4 m g (by omega) e1' with h | ⟨k2, hk2, h⟩
           · have := hS.lt j g e2'
             omega
           · exact h2' (hS.inj j _ g h3' (hlive k2 hk2) e2' h ▸ hbmem k2 hk2)
     · rcases hidx j g hj e2 with ⟨k', hk', rfl, e2', gk'⟩ | ⟨h1', h2', h3', e2'⟩
       · exfalso
         rcases Nat.lt_or_ge k' bs.length with hlt | hge
         · rw [q1 k' (by omega)] at e2'
           simp only [βc, hlt, if_true] at e2'
           exact h2 (hS.inj i _ g h3 (hlive k' hlt) e1' e2' ▸ hbmem k' hlt)
         · obtain ⟨m, rfl⟩ : ∃ m, k' = bs.length + m := ⟨k' - bs.length, by omega⟩
           rcases hq4 m g (by omega) e2' with h | ⟨k2, hk2, h⟩
           · have := hS.lt i g e1'
             omega
           · exact h2 (hS.inj i _ g h3 (hlive k2 hk2) e1' h ▸ hbmem k2 hk2)
       · exact hS.inj i j g h3 h3' e1' e2'
   · rcases hidx j g hj e with ⟨k, hk, rfl, e', gk⟩ | ⟨h1, h2, h3, e'⟩
     · obtain ⟨a1, a2⟩ := q3 k g (by omega) gk e'
       refine ⟨a1, ?_, ?_⟩
       · rcases Nat.lt_or_ge k bs.length with hlt | hge
         · rw [q1 k (by omega)] at e'
           simp only [βc, hlt, if_true] at e'
           exact (hS.own _ g (hlive k hlt) e').2.1
         · obtain ⟨m, rfl⟩ : ∃ m, k = bs.length + m := ⟨k - bs.length, by omega⟩
           rcases hq4 m g (by omega) e' with h | ⟨k2, hk2, h⟩
           · exact .inl (Nat.le_trans hS.keep.size h)
           · exact (hS.own _ g (hlive k2 hk2) h).2.1
       · rintro (hf | hf)
         · rcases Nat.lt_or_ge k bs.length with hlt | hge
           · rw [q1 k (by omega)] at e'
             simp only [βc, hlt, if_true] at e'
             exact (hS.own _ g (hlive k hlt) e').2.2 hf
           · obtain ⟨m, rfl⟩ : ∃ m, k = bs.length + m := ⟨k - bs.length, by omega⟩
             rcases hq4 m g (by omega) e' with h | ⟨k2, hk2, h⟩
             · have := (hS.fr g hf).1
               omega
             · exact (hS.own _ g (hlive k2 hk2) h).2.2 hf
         · exact a2 hf
     · obtain ⟨a1, a2, a3⟩ := hS.own j g h3 e'
       refine ⟨Nat.lt_of_lt_of_le a1 q6.size, a2, ?_⟩
       rintro (hf | hf)
       · exact a3 hf
       · rcases hF' g hf with h | h
         · exact a3 h
         · omega
   · by_cases hm : j ∈ z05 d news.length
     · obtain ⟨i, hi, rfl⟩ := (z0M _ _).1 hm
       rw [hβ2k i hi] at e
       exact q3' _ g (by omega) e
     · rw [hβ2o j hm] at e
       exact Nat.lt_of_lt_of_le (hS.lt j g e) q6.size
   · rcases hb with hb | hb
     · exact ⟨Nat.lt_of_lt_of_le (hS.fr b hb).1 q6.size, (hS.fr b hb).2⟩
     · refine ⟨(q5 b hb).1, ?_⟩
       rcases hF' b hb with h | h
       · exact (hS.fr b h).2
       · exact .inr (Nat.le_trans hS.keep.size h)
   · refine hS.keep.trans q6 (fun _ h => h) fun g hg hm => ?_
     obtain ⟨i, hi, e⟩ := hMb g hm
     rcases (hS.own _ g (hlive i hi) e).2.1 with h | h
     · omega
     · exact h
   · rw [hβ2o i (fun hm => ?_)]
     · exact hS.bb i hi
     · obtain ⟨k, _, e⟩ := (z0M _ _).1 hm
       have := hS.nbl
       simp only [nk] at e
       omega
theorem zcT {P : Program} {E : Env} {σ : St} {a : Act} {w : World} {β : Nat → Option Nat} {F : Nat → Prop} {f : FuncId} {xs ys : List Av} {bor : List Blk} {res : Av} {bor' news : List Blk} {bs : List Nat} {d : Option Nat} {vs : List Value}
   (hF : CtM P f xs bor res bor' news) (hS : SRb E β F σ a w) (hnew : ∀ i, β (nk d i) = none ∨ news.length ≤ i) (hC : CallOk σ ys xs bor res bor' news bs d)
   (hvl : vs.length = ys.length) (hvs : ∀ (i : Nat) (y : Av) (v : Value), ys[i]? = some y → vs[i]? = some v → AvR β F w y v) :
   Calls P f vs.toArray w fun e w' => ∃ v, e = .returned v ∧ ∃ β' F', AvR β' F' w' (res.ren (z0s bs d news.length)) v ∧ SRb E β' F' (z0n σ bs d bor' news) a w' := by
 refine (z7s hF hS hnew hC hvl hvs).mono fun e w' h => ?_
 obtain ⟨v, e1, β', F', h1, _, _, h2⟩ := h
 exact ⟨v, e1, β', F', h1, h2⟩
section
variable {P : Program} {E : Env} {ops : Array Oper} {Q : Exit → Act → World → Prop} {rest : List Oper} {o : Oper} {σ : St}
theorem z5L {c : Call} {fo : Operand} {f : FuncId} {first cap : List Cell} {pf : List Prop} {xs : List Av} {bor : List Blk} {res : Av} {bor' news : List Blk} (bs : List Nat) (hF : CtM P f xs bor res bor' news)
   (hop : o.op = .call c) (hg : o.guard = none) (hd : z08 E.n o.dst = true) (hcv : c.callee = .value fo) (hfo : ox (σ.kills (z05 o.dst news.length)) fo = (pf, .c (.fn (.func f) first cap)))
   (hp : z03 (pf ++ (oxs (σ.kills (z05 o.dst news.length)) c.args.toList).1))
   (hC : CallOk (σ.kills (z05 o.dst news.length)) (first.map Av.c ++ (oxs (σ.kills (z05 o.dst news.length)) c.args.toList).2 ++ cap.map Av.c) xs bor res bor' news bs o.dst)
   (hk : WL P E ops Q rest ((z0n (σ.kills (z05 o.dst news.length)) bs o.dst bor' news).put o.dst (res.ren (z0s bs o.dst news.length)))) : WL P E ops Q (o :: rest) σ := by
 intro a w hS
 refine wpList_plain hg fun K hK => ?_
 obtain ⟨β0, F, hS0⟩ := hS
 obtain ⟨β, hS, hnone⟩ := hS0.kills (z05 o.dst news.length) (fun k hk => by
   obtain ⟨i, _, rfl⟩ := (z0M _ _).1 hk
   have := hS0.nbl
   simp only [nk]; omega)
 generalize σ.kills (z05 o.dst news.length) = τ at *
 have hfv := oxR hS fo
 rw [hfo] at hfv
 have hfv := hfv hp.left
 generalize hv : a.eval fo = fv at hfv
 cases hfv with | c hfv => cases hfv with | fn _ _ _ f1 c1 n1 n2 r1 r2 =>
 obtain ⟨l1, l2⟩ := z4A hS c.args.toList hp.right
 have hrun : (execOp a.eval o).run P w = .ok (.enter f (f1 ++ c.args.map a.eval ++ c1)) w := by
   simp only [execOp, hop, resolve, hcv, hv, Deferred.ofValue, Sem.run_bind, Sem.run_pure, Result.andThen_ok, invoke]
   exact z1H hF.2.1
 unfold Oper.wp
 rw [hrun, Oper.upon_enter]
 have hcore := zcT (vs := (f1 ++ c.args.map a.eval ++ c1).toList) hF hS (fun i => by
   rcases Nat.lt_or_ge i news.length with h | h
   · exact .inl (hnone _ (.inr ((z0M _ _).2 ⟨i, h, rfl⟩)))
   · exact .inr h) hC (by simp [n1, n2, l1]) (fun i y v hy hv => by
     simp only [Array.toList_append, List.append_assoc] at hv
     rw [List.append_assoc] at hy
     rcases Nat.lt_or_ge i first.length with h | h
     · rw [List.getElem?_append_left (by simpa using h)] at hy
       rw [List.getElem?_append_left (by simp [n1]; exact h)] at hv
       rw [List.getElem?_map, Option.map_eq_some_iff] at hy
       obtain ⟨x, hx, rfl⟩ := hy
       exact .c (r1 i x v hx (by simpa using hv))
     · rw [List.getElem?_append_right (by simpa using h)] at hy
       rw [List.getElem?_append_right (by simp [n1]; exact h)] at hv
       simp only [List.length_map, Array.length_toList, n1] at hy hv
       rcases Nat.lt_or_ge (i - first.length) c.args.toList.length with h' | h'
       · rw [List.getElem?_append_left (by rw [l1]; exact h')] at hy
         rw [List.getElem?_append_left (by simpa using h')] at hv
         exact l2 _ y v hy (by simpa using hv)
       · rw [List.getElem?_append_right (by rw [l1]; exact h')] at hy
         rw [List.getElem?_append_right (by simpa using h')] at hv
         rw [List.getElem?_map, Option.map_eq_some_iff] at hy
         obtain ⟨x, hx, rfl⟩ := hy
         refine .c (r2 _ x v hx ?_)
         simp only [l1] at hx
         simpa [l1] using hv)
 rw [Array.toArray_toList] at hcore
 refine hcore.mono fun e w' hq => ?_
 obtain ⟨v, rfl, β', F', hv', hS'⟩ := hq
 exact hK _ _ (hk _ _ ⟨β', F', hS'.put hv' (z0o hd)⟩)
end
end Go.Sx

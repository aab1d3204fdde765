/-
  Chapter 12: a block more, the state's bytes. The conditions: words below 2^32, bytes that are bytes.
-/
import Derived.Test.YtaagjnlkinojcaaGreatDoorO16
import Derived.Test.YtaagjnlkinojcaaGreatDoorO24
import Derived.Test.YtaagjnlkinojcaaGreatDoorB9
import Derived.Test.YtaagjnlkinojcaaGreatDoorSxI
import Derived.Test.YtaagjnlkinojcaaGreatDoorW10
import Derived.Test.YtaagjnlkinojcaaGreatDoorSxP
namespace Go.Proofs.YtaagjnlkinojcaaGreatDoor
set_option linter.unusedSimpArgs false
set_option linter.unusedVariables false
open Go.Sx
set_option maxRecDepth 10000
def crX (c : Bool) : List Int := if c = true then [1, 1, 255] else []
def inX (x : ExT) : List Int := wrapL (ofT 6) (arcsL (numsL x.1)) ++ (crX x.2.1 ++ wrapL (ofT 4) x.2.2)
def wrX (x : ExT) : List Int := wrapL (ofT 16) (inX x)
theorem wr1 : wrapL (ofT 1) [255] = [1, 1, 255] := by decide +kernel
theorem wrap_ge (t : TagP) (x : List Int) : 1 ≤ (wrapL t x).length := by
 unfold wrapL lenL
 split <;> simp <;> omega
theorem crit_back {X : List Int} {c : Bool} {p q : Nat} (hw : WfB X) (h : critR X p = (c, q, 0)) : X.drop p = crX c ++ X.drop q := by
 unfold critR at h
 by_cases hi : isH X p (ofT 1) = true
 · rw [if_pos hi] at h
   dsimp only at h
   unfold boolR at h
   generalize hO : openP X p (ofT 1) = O at *
   obtain ⟨y, q1, e⟩ := O
   dsimp only at h
   by_cases he : e = 0
   · subst he
     rw [if_pos rfl] at h
     by_cases hy : y = [0] ∨ y = [255]
     · rw [if_pos hy] at h
       dsimp only at h
       by_cases h2 : y = [255]
       · subst h2
         simp at h
         obtain ⟨rfl, rfl⟩ := h
         rw [(open_back hw hO).2, wr1]
         rfl
       · simp [h2] at h
     · rw [if_neg hy] at h
       simp at h
   · rw [if_neg he] at h
     simp [he] at h
 · rw [if_neg hi] at h
   simp only [Prod.mk.injEq] at h
   obtain ⟨rfl, rfl, _⟩ := h
   rfl
theorem oidR_backX {l o : List Int} {p q : Nat} (hw : WfB l) (h : oidR l p = (o, q, 0)) : rightO o = true ∧ l.drop p = wrapL (ofT 6) (arcsL (numsL o)) ++ l.drop q := by
 unfold oidR at h
 have hm := openP_mem l p (ofT 6)
 generalize hX : openP l p (ofT 6) = X at *
 obtain ⟨x, q1, e⟩ := X
 dsimp only at *
 have hwx : WfB x := fun y hy => hw y (hm.2 y hy)
 by_cases he : e = 0
 · subst he
   rw [if_pos rfl] at h
   have hr := oidP_rightV x hwx
   generalize hY : oidP x = Y at *
   obtain ⟨o1, f⟩ := Y
   dsimp only at *
   by_cases hf : f = 0
   · subst hf
     rw [if_pos rfl] at h
     simp only [Prod.mk.injEq] at h
     obtain ⟨rfl, rfl, _⟩ := h
     refine ⟨hr rfl, ?_⟩
     rw [oidP_backV hwx hY]
     exact (open_back hw hX).2
   · rw [if_neg hf] at h
     simp only [Prod.mk.injEq] at h
     exact absurd h.2.2 hf
 · rw [if_neg he] at h
   simp only [Prod.mk.injEq] at h
   exact absurd h.2.2 he
theorem exR1_back {l : List Int} {x : ExT} {p q : Nat} (hw : WfB l) (hp : p ≤ l.length) (h : exR1 l p = (x, q, 0)) : rightO x.1 = true ∧ l.drop p = wrX x ++ l.drop q ∧ WfB x.2.2 ∧ x.2.2.length ≤ l.length ∧ p < q ∧ q ≤ l.length := by
 unfold exR1 at h
 by_cases h0 : (rawX l p).2.2 = 0
 · rw [keepP_ok _ _ _ h0] at h
   have hle := openP_le l p (ofT 16) hp
   have hm := openP_mem l p (ofT 16)
   unfold rawX at h
   generalize hO : openP l p (ofT 16) = O at *
   obtain ⟨X, q1, e⟩ := O
   dsimp only at *
   have hwX : WfB X := fun y hy => hw y (hm.2 y hy)
   by_cases he : e = 0
   · subst he
     rw [if_pos rfl] at h
     have h1l := oidR_le X 0 (Nat.zero_le _)
     generalize h1 : oidR X 0 = R1 at *
     obtain ⟨o, p1, f1⟩ := R1
     dsimp only at *
     by_cases hf1 : f1 = 0
     · subst hf1
       rw [if_pos rfl] at h
       have h2l := critR_le X p1 h1l.2
       generalize h2 : critR X p1 = R2 at *
       obtain ⟨c, p2, f2⟩ := R2
       dsimp only at *
       by_cases hf2 : f2 = 0
       · subst hf2
         rw [if_pos rfl] at h
         have h3l := openP_le X p2 (ofT 4) h2l.2
         have h3m := openP_mem X p2 (ofT 4)
         generalize h3 : openP X p2 (ofT 4) = R3 at *
         obtain ⟨v, p3, f3⟩ := R3
         dsimp only at *
         by_cases hf3 : f3 = 0
         · subst hf3
           rw [if_pos rfl] at h
           by_cases hlt : p3 < X.length
           · rw [if_pos hlt] at h; simp at h
           · rw [if_neg hlt] at h
             simp only [Prod.mk.injEq] at h
             obtain ⟨rfl, rfl, _⟩ := h
             obtain ⟨a1, a2⟩ := oidR_backX hwX h1
             have a3 := crit_back hwX h2
             have a4 := (open_back hwX h3).2
             have a5 := (open_back hw hO).2
             have e3 : X.drop p3 = [] := List.drop_eq_nil_of_le (by omega)
             rw [e3, List.append_nil] at a4
             rw [List.drop_zero, a3, a4] at a2
             have a6 : l.drop p = wrX (o, c, v) ++ l.drop q1 := by rw [a5, a2]; rfl
             refine ⟨a1, a6, fun y hy => hwX y (h3m.2 y hy), by dsimp only; omega, ?_, hle.2⟩
             have := congrArg List.length a6
             have hg := wrap_ge (ofT 16) (inX (o, c, v))
             simp only [List.length_append, List.length_drop] at this
             change 1 ≤ (wrX (o, c, v)).length at hg
             omega
         · rw [if_neg hf3] at h
           simp only [Prod.mk.injEq] at h
           exact absurd h.2.2 hf3
       · rw [if_neg hf2] at h
         simp only [Prod.mk.injEq] at h
         exact absurd h.2.2 hf2
     · rw [if_neg hf1] at h
       simp only [Prod.mk.injEq] at h
       exact absurd h.2.2 hf1
   · rw [if_neg he] at h
     simp only [Prod.mk.injEq] at h
     exact absurd h.2.2 he
 · rw [keepP_err _ _ _ h0] at h
   simp only [Prod.mk.injEq] at h
   exact absurd h.2.2 h0
theorem isH_at (A b C : List Int) (t u : TagP) (h : rightT t = true) (hb : b.length ≤ 16777216) : isH (A ++ (wrapL t b ++ C)) A.length u = decide (t = u) := by
 unfold isH
 rw [readP_at A b C t h hb]
 simp
theorem inX_len (x : ExT) (hr : rightO x.1 = true) : (inX x).length ≤ x.2.2.length + 1000 := by
 have h1 := conO_len hr
 have h2 := wrap_len (ofT 6) (arcsL (numsL x.1))
 have h3 := wrap_len (ofT 4) x.2.2
 unfold inX crX
 simp only [List.length_append]
 split
 · simp only [List.length_cons, List.length_nil]; omega
 · simp only [List.length_nil]; omega
theorem wrX_len (x : ExT) (hr : rightO x.1 = true) : (wrX x).length ≤ x.2.2.length + 1020 := by
 have := inX_len x hr
 have h2 := wrap_len (ofT 16) (inX x)
 unfold wrX
 omega
theorem crit_fwd (A v : List Int) (c : Bool) (hv : v.length ≤ 100000) : critR (A ++ (crX c ++ wrapL (ofT 4) v)) A.length = (c, A.length + (crX c).length, 0) := by
 unfold critR
 cases c with
 | false =>
   have := isH_at A v [] (ofT 4) (ofT 1) (by decide) (by omega)
   rw [List.append_nil] at this
   show (if isH (A ++ wrapL (ofT 4) v) A.length (ofT 1) = true then _ else _) = _
   rw [this, if_neg (by decide)]
   rfl
 | true =>
   have e : crX true = wrapL (ofT 1) [255] := wr1.symm
   rw [e]
   have := isH_at A [255] (wrapL (ofT 4) v) (ofT 1) (ofT 1) (by decide) (by decide)
   rw [this, if_pos (by decide)]
   unfold boolR
   rw [openP_at A [255] (wrapL (ofT 4) v) (ofT 1) (by decide) (by decide)]
   simp
theorem exR1_fwd (A C : List Int) {x : ExT} (hr : rightO x.1 = true) (hv : x.2.2.length ≤ 100000) : exR1 (A ++ (wrX x ++ C)) A.length = (x, A.length + (wrX x).length, 0) := by
 have hlen := inX_len x hr
 have hopen := openP_at A (inX x) C (ofT 16) (by decide) (by omega)
 change openP (A ++ (wrX x ++ C)) A.length (ofT 16) = (inX x, A.length + (wrX x).length, 0) at hopen
 have h1 := oidR_fwdV [] (crX x.2.1 ++ wrapL (ofT 4) x.2.2) hr
 change oidR (inX x) 0 = (x.1, 0 + (wrapL (ofT 6) (arcsL (numsL x.1))).length, 0) at h1
 rw [Nat.zero_add] at h1
 have h2 := crit_fwd (wrapL (ofT 6) (arcsL (numsL x.1))) x.2.2 x.2.1 hv
 change critR (inX x) _ = _ at h2
 have h3 := openP_at (wrapL (ofT 6) (arcsL (numsL x.1)) ++ crX x.2.1) x.2.2 [] (ofT 4) (by decide) (by omega)
 have e3 : (wrapL (ofT 6) (arcsL (numsL x.1)) ++ crX x.2.1) ++ (wrapL (ofT 4) x.2.2 ++ []) = inX x := by simp [inX]
 rw [e3, List.length_append] at h3
 have hraw : rawX (A ++ (wrX x ++ C)) A.length = (x, A.length + (wrX x).length, 0) := by
   unfold rawX
   rw [hopen]
   dsimp only
   rw [if_pos rfl, h1]
   dsimp only
   rw [if_pos rfl, h2]
   dsimp only
   rw [if_pos rfl, h3]
   dsimp only
   rw [if_pos rfl, if_neg (by unfold inX; simp only [List.length_append]; omega)]
 unfold exR1
 rw [hraw, keepP_ok _ _ _ rfl]
def hasO (acc : List ExT) (o : List Int) : Bool := acc.any fun e => decide (e.1 = o)
def allX (l : List Int) : Nat → Nat → List ExT → List ExT × Nat × Int
 | 0, p, acc => (acc, p, 0)
 | k + 1, p, acc =>
   if p < l.length then (if acc.length = 64 then ([], p, 2) else
     let r := exR1 l p
     if r.2.2 = 0 then (if hasO acc r.1.1 = true then ([], r.2.1, 10) else allX l k r.2.1 (acc ++ [r.1])) else ([], r.2.1, r.2.2))
   else (acc, p, 0)
def allP (l : List Int) : List ExT × Nat × Int := if l = [] then ([], 0, 6) else allX l (l.length + 1) 0 []
def exsR (l : List Int) (p : Nat) : List ExT × Nat × Int :=
 let r := openP l p (ofT 16)
 if r.2.2 = 0 then (let a := allP r.1; if a.2.2 = 0 then (a.1, r.2.1, 0) else ([], p, a.2.2)) else ([], p, r.2.2)
theorem exR1_err {l : List Int} {p : Nat} (h : ¬ (exR1 l p).2.2 = 0) : (exR1 l p).1 = e0 ∧ (exR1 l p).2.1 = p := by
 unfold exR1 at h ⊢
 by_cases h0 : (rawX l p).2.2 = 0
 · rw [keepP_ok _ _ _ h0] at h; exact absurd h0 h
 · rw [keepP_err _ _ _ h0]; exact ⟨rfl, rfl⟩
theorem allX_fuel (l : List Int) (hw : WfB l) : ∀ (k k' p : Nat) (acc : List ExT), p ≤ l.length → l.length - p < k → l.length - p < k' → allX l k p acc = allX l k' p acc
 | 0, k', p, o, _, h, _ => by omega
 | k + 1, 0, p, o, _, _, h => by omega
 | k + 1, k' + 1, p, o, hp, h, h' => by
   unfold allX
   by_cases hp2 : p < l.length
   · rw [if_pos hp2, if_pos hp2]
     split
     · rfl
     · dsimp only
       split
       · rename_i he
         have hb := exR1_back (x := (exR1 l p).1) (q := (exR1 l p).2.1) hw hp (by rw [← he])
         split
         · rfl
         · exact allX_fuel l hw k k' _ _ hb.2.2.2.2.2 (by omega) (by omega)
       · rfl
   · rw [if_neg hp2, if_neg hp2]
def goodX (l : List ExT) : Prop := (∀ e ∈ l, rightO e.1 = true) ∧ (l.map (·.1)).Nodup
theorem hasO_iff {acc : List ExT} {o : List Int} : hasO acc o = true ↔ o ∈ acc.map (·.1) := by
 unfold hasO
 rw [List.any_eq_true, List.mem_map]
 constructor
 · rintro ⟨e, h1, h2⟩; exact ⟨e, h1, by simpa using h2⟩
 · rintro ⟨e, h1, h2⟩; exact ⟨e, h1, by simpa using h2⟩
theorem goodX_snoc {acc : List ExT} {x : ExT} (h : goodX acc) (hr : rightO x.1 = true) (hn : ¬ hasO acc x.1 = true) : goodX (acc ++ [x]) := by
 rw [hasO_iff] at hn
 refine ⟨fun e he => ?_, ?_⟩
 · rcases List.mem_append.1 he with h1 | h1
   · exact h.1 e h1
   · rw [List.mem_singleton.1 h1]; exact hr
 · rw [List.map_append, List.nodup_append]
   refine ⟨h.2, by simp, fun a ha b hb => ?_⟩
   simp at hb
   rintro rfl
   rw [hb] at ha
   exact hn ha
theorem allX_back {l : List Int} (hw : WfB l) : ∀ (k p : Nat) (acc r : List ExT) (q : Nat), p ≤ l.length → l.length - p < k → goodX acc → acc.length ≤ 64 → (∀ e ∈ acc, WfB e.2.2 ∧ e.2.2.length ≤ l.length) → allX l k p acc = (r, q, 0) →
   goodX r ∧ r.length ≤ 64 ∧ q = l.length ∧ (∀ e ∈ r, WfB e.2.2 ∧ e.2.2.length ≤ l.length) ∧ acc.length ≤ r.length ∧ (p < l.length → acc.length < r.length) ∧ acc.flatMap wrX ++ l.drop p = r.flatMap wrX
 | 0, p, acc, r, q, _, h, _, _, _, _ => by omega
 | k + 1, p, acc, r, q, hp, hk, hg, hl, hv, h => by
   unfold allX at h
   by_cases hp2 : p < l.length
   · rw [if_pos hp2] at h
     by_cases h64 : acc.length = 64
     · rw [if_pos h64] at h; simp at h
     · rw [if_neg h64] at h
       generalize hx : exR1 l p = X at *
       obtain ⟨x, q1, e⟩ := X
       dsimp only at h
       by_cases he : e = 0
       · subst he
         rw [if_pos rfl] at h
         obtain ⟨b1, b2, b3, b4, b5, b6⟩ := exR1_back hw hp hx
         by_cases hh : hasO acc x.1 = true
         · rw [if_pos hh] at h; simp at h
         · rw [if_neg hh] at h
           obtain ⟨c1, c2, c3, c4, c5, c6, c7⟩ := allX_back hw k q1 (acc ++ [x]) r q b6 (by omega) (goodX_snoc hg b1 hh) (by simp; omega) (fun e he => by
             rcases List.mem_append.1 he with h1 | h1
             · exact hv e h1
             · rw [List.mem_singleton.1 h1]; exact ⟨b3, b4⟩) h
           simp only [List.length_append, List.length_singleton] at c5
           refine ⟨c1, c2, c3, c4, by omega, fun _ => by omega, ?_⟩
           rw [← c7, b2, List.flatMap_append]
           simp
       · rw [if_neg he] at h
         simp only [Prod.mk.injEq] at h
         exact absurd h.2.2 he
   · rw [if_neg hp2] at h
     simp only [Prod.mk.injEq] at h
     obtain ⟨rfl, rfl, _⟩ := h
     exact ⟨hg, hl, by omega, hv, Nat.le_refl _, fun h => absurd h hp2, by rw [List.drop_eq_nil_of_le (by omega), List.append_nil]⟩
theorem allX_fwd {l : List Int} (hw : WfB l) : ∀ (ys : List ExT) (k p : Nat) (acc : List ExT), p ≤ l.length → l.length - p < k → goodX (acc ++ ys) → acc.length + ys.length ≤ 64 → (∀ e ∈ ys, e.2.2.length ≤ 100000) → l.drop p = ys.flatMap wrX → allX l k p acc = (acc ++ ys, l.length, 0)
 | [], 0, p, acc, _, hk, _, _, _, _ => by omega
 | [], k + 1, p, acc, hp, hk, _, _, _, hd => by
   have : l.length ≤ p := by simpa using hd
   rw [allX, if_neg (by omega), List.append_nil, show p = l.length by omega]
 | y :: ys, 0, p, acc, _, hk, _, _, _, _ => by omega
 | y :: ys, k + 1, p, acc, hp, hk, hg, hl, hv, hd => by
   have hry : rightO y.1 = true := hg.1 y (by simp)
   have hsp : l = l.take p ++ (wrX y ++ ys.flatMap wrX) := by
     rw [← List.flatMap_cons, ← hd, List.take_append_drop]
   have hlp : (l.take p).length = p := by simp; omega
   have hx : exR1 l p = (y, p + (wrX y).length, 0) := by
     have := exR1_fwd (l.take p) (ys.flatMap wrX) hry (hv y (by simp))
     rwa [← hsp, hlp] at this
   have hge := wrap_ge (ofT 16) (inX y)
   change 1 ≤ (wrX y).length at hge
   have hll := congrArg List.length hd
   rw [List.flatMap_cons, List.length_drop, List.length_append] at hll
   have hno : ¬ hasO acc y.1 = true := by
     rw [hasO_iff]
     intro hm
     have := hg.2
     rw [List.map_append, List.nodup_append] at this
     exact this.2.2 _ hm _ (by simp) rfl
   simp only [List.length_cons] at hl
   rw [allX, if_pos (by omega), if_neg (by omega), hx]
   dsimp only
   rw [if_pos rfl, if_neg hno]
   have ih := allX_fwd hw ys k (p + (wrX y).length) (acc ++ [y]) (by omega) (by omega) (by simpa using hg) (by simp; omega) (fun e he => hv e (by simp [he])) (by rw [← List.drop_drop, hd, List.flatMap_cons, List.drop_left])
   rw [ih]
   simp

abbrev txS (o : List Int) : ByteArray := strOfNums (textO refS o)
def metM (os : List (List Int)) : MapL := os.map fun o => (txS o, Leaf.v (.bool true))
theorem txS_inj {o q : List Int} (h : rightO o = true) (hq : rightO q = true) (e : txS o = txS q) : o = q := text_inj h hq (by
 have := congrArg bs e
 rwa [bs_str (textO_wf refS o), bs_str (textO_wf refS q)] at this)
theorem met_find {o : List Int} (h : rightO o = true) : ∀ {os : List (List Int)}, (∀ q ∈ os, rightO q = true) → findM (metM os) (txS o) = if o ∈ os then some (.v (.bool true)) else none
 | [], _ => rfl
 | q :: os, hq => by
   have ih := met_find h (os := os) fun x hx => hq x (List.mem_cons_of_mem _ hx)
   show (if txS o = txS q then some (Leaf.v (.bool true)) else findM (metM os) (txS o)) = _
   by_cases e : o = q
   · subst e; simp
   · rw [if_neg fun h2 => e (txS_inj h (hq q (List.mem_cons_self ..)) h2), ih]
     simp [e]
theorem met_set {o : List Int} (h : rightO o = true) : ∀ {os : List (List Int)}, (∀ q ∈ os, rightO q = true) → o ∉ os → setM (metM os) (txS o) (.v (.bool true)) = metM (os ++ [o])
 | [], _, _ => rfl
 | q :: os, hq, hn => by
   have ih := met_set h (os := os) (fun x hx => hq x (List.mem_cons_of_mem _ hx)) fun h2 => hn (List.mem_cons_of_mem _ h2)
   show (if txS o = txS q then _ else (txS q, Leaf.v (.bool true)) :: setM (metM os) (txS o) (.v (.bool true))) = _
   rw [if_neg fun h2 => hn (by rw [txS_inj h (hq q (List.mem_cons_self ..)) h2]; exact List.mem_cons_self ..), ih]
   rfl
theorem otx_ok (o : List Int) (h : rightO o = true) : Ct Tryz.prog 95 [I64 o] [] (.tup [lv (.string (txS o)), lv (.int .i64 0)]) [] [] := otext_ok o h
theorem madd_old (os : List (List Int)) (o : List Int) (h : rightO o = true) (hq : ∀ q ∈ os, rightO q = true) (hm : o ∈ os) : Ct Tryz.prog 58 [.c (.map 0), I64 o] [.map (metM os)] (lv (.bool false)) [.map (metM os)] [] := by
 have ht := otx_ok o h
 have hf := met_find h hq
 rw [if_pos hm] at hf
 generalize txS o = s at *
 generalize metM os = es at *
 refine Ct_intro Tryz.func58 rfl rfl rfl rfl rfl (fun E hn hb => ?_)
 repeat refine nxm ?_
 exact rt1 []
theorem madd_new (os : List (List Int)) (o : List Int) (h : rightO o = true) (hq : ∀ q ∈ os, rightO q = true) (hm : o ∉ os) : Ct Tryz.prog 58 [.c (.map 0), I64 o] [.map (metM os)] (lv (.bool true)) [.map (metM (os ++ [o]))] [] := by
 have ht := otx_ok o h
 have hf := met_find h hq
 rw [if_neg hm] at hf
 rw [← met_set h hq hm]
 generalize txS o = s at *
 generalize metM os = es at *
 refine Ct_intro Tryz.func58 rfl rfl rfl rfl rfl (fun E hn hb => ?_)
 repeat refine nxm ?_
 exact rt1 []
theorem goodX_nil : goodX [] := ⟨fun e he => (by cases he), List.nodup_nil⟩
theorem goodX_right {acc : List ExT} (h : goodX acc) : ∀ q ∈ acc.map (·.1), rightO q = true := fun q hq => by
 obtain ⟨e, he, rfl⟩ := List.mem_map.1 hq
 exact h.1 e he
set_option maxHeartbeats 8000000 in
theorem all_ok (l : List Int) (hl : l.length ≤ 1000000) (hw : WfB l) : Ct Tryz.prog 45 [.c (.ptr 0 0)] [curB l 0] (.tup [exR (allP l).1, lv (.int .i64 (allP l).2.2)]) [curB l (allP l).2.1] [] := by
 obtain ⟨R, hR⟩ : ∃ R, allP l = R := ⟨_, rfl⟩
 rw [hR]
 unfold allP at hR
 have hleft0 := left_ok l 0 (Nat.zero_le _) (by omega)
 by_cases h0 : l = []
 · rw [if_pos h0] at hR
   subst hR
   subst h0
   refine Ct_intro Tryz.func45 rfl rfl rfl rfl rfl (fun E hn hb => ?_)
   repeat refine nx ?_
   exact rtU []
 · rw [if_neg h0] at hR
   have hpos : 0 < l.length := List.length_pos_iff.2 h0
   refine Ct_intro Tryz.func45 rfl rfl rfl rfl rfl (fun E hn hb => ?_)
   repeat refine nxm ?_
   refine W_own_nil 5 900 3 (.recs 3 []) rfl rfl (.inr (.inr ⟨_, rfl⟩)) ?_
   refine W_weaken (St.le_of (l := [(0, .c (.ptr 0 0)), (4, .c (.map 75)), (5, .c (.own 900 3 0 (([] : List ExT).map exL).length))]) (h := [(0, curB l 0), (75, .map (metM (([] : List ExT).map (·.1)))), (900, .row (.recs 3 (([] : List ExT).map exL)))]) (by refine ⟨?_, ?_⟩ <;> (repeat' (first | exact trivial | exact rfl | refine ⟨?_, ?_⟩)) <;> first | exact rfl | (simp; done) | skip)) ?_
   refine W_loop (ι := {s : Nat × List ExT // s.1 ≤ l.length ∧ goodX s.2 ∧ s.2.length ≤ 64 ∧ allX l (l.length + 1) s.1 s.2 = R}) (fun s => St.of [(0, .c (.ptr 0 0)), (4, .c (.map 75)), (5, .c (.own 900 3 0 (s.1.2.map exL).length))] [(0, curB l s.1.1), (75, .map (metM (s.1.2.map (·.1)))), (900, .row (.recs 3 (s.1.2.map exL)))]) (fun s => l.length - s.1.1) (fun s => ?_) ⟨(0, []), Nat.zero_le _, goodX_nil, Nat.zero_le _, hR⟩
   obtain ⟨⟨p, acc⟩, hp, hg, h64, hx⟩ := s
   dsimp only at hp hg h64 hx ⊢
   have hlf := left_ok l p hp (by omega)
   have hml : (acc.map exL).length = acc.length := List.length_map ..
   unfold allX at hx
   by_cases hlt : p < l.length
   · rw [if_pos hlt] at hx
     by_cases h6 : acc.length = 64
     · rw [if_pos h6] at hx
       subst hx
       repeat refine nxm ?_
       exact rtU []
     · rw [if_neg h6] at hx
       have hr := readone_ok l p hp hl hw
       have hbk := @exR1_back l (exR1 l p).1 p (exR1 l p).2.1 hw hp
       have hne := @exR1_err l p
       generalize exR1 l p = X at *
       obtain ⟨x, q, e⟩ := X
       dsimp only at hr hbk hx hne
       by_cases he : e = 0
       · subst he
         rw [if_pos rfl] at hx
         obtain ⟨b1, b2, b3, b4, b5, b6⟩ := hbk rfl
         by_cases hh : hasO acc x.1 = true
         · rw [if_pos hh] at hx
           subst hx
           have ha := madd_old (acc.map (·.1)) x.1 b1 (goodX_right hg) (hasO_iff.1 hh)
           obtain ⟨o, c, v⟩ := x
           repeat refine nxm ?_
           exact rtU []
         · rw [if_neg hh] at hx
           have ha := madd_new (acc.map (·.1)) x.1 b1 (goodX_right hg) (fun h => hh (hasO_iff.2 h))
           have hg2 := goodX_snoc hg b1 hh
           rw [allX_fuel l hw l.length (l.length + 1) q _ b6 (by omega) (by omega)] at hx
           obtain ⟨o, c, v⟩ := x
           repeat refine nxm ?_
           refine N_round ⟨(q, acc ++ [(o, c, v)]), b6, hg2, by simp; omega, hx⟩ (by dsimp only; omega) (St.le_of ⟨⟨rfl, rfl, ?_⟩, ⟨rfl, ?_, ?_⟩⟩)
           · dsimp only; rw [List.map_append]; rfl
           · dsimp only; rw [List.map_append]; rfl
           · dsimp only; rw [List.map_append]; rfl
       · rw [if_neg he] at hx
         obtain ⟨rfl, rfl⟩ := hne he
         subst hx
         repeat refine nxm ?_
         exact rtU []
   · obtain rfl : p = l.length := by omega
     rw [if_neg hlt] at hx
     subst hx
     repeat refine nxm ?_
     rw [hml]
     refine frzN 2 ?_
     exact rt1 []
def rawXs (l : List Int) (p : Nat) : List ExT × Nat × Int :=
 let r := openP l p (ofT 16)
 if r.2.2 = 0 then ((allP r.1).1, r.2.1, (allP r.1).2.2) else ([], p, r.2.2)
theorem exsR_keep (l : List Int) (p : Nat) : exsR l p = keepP [] p (rawXs l p) := by
 unfold exsR rawXs keepP
 dsimp only
 split
 · split
   · rename_i h1 h2; rw [h2]
   · rfl
 · rfl
theorem rawXs_le (l : List Int) (p : Nat) (hp : p ≤ l.length) : p ≤ (rawXs l p).2.1 ∧ (rawXs l p).2.1 ≤ l.length := by
 have h := openP_le l p (ofT 16) hp
 unfold rawXs
 dsimp only
 split
 · exact h
 · exact ⟨Nat.le_refl _, hp⟩
abbrev exsE (x : List ExT) (e : Int) : Av := .tup [exR x, lv (.int .i64 e)]
set_option maxHeartbeats 4000000 in
theorem rawXs_ok (l : List Int) (p : Nat) (hp : p ≤ l.length) (hl : l.length ≤ 1000000) (hw : WfB l) : Ct Tryz.prog 44 [.c (.ptr 1 0)] [curB l p, ptrB] (exsE (rawXs l p).1 (rawXs l p).2.2) [curB l (rawXs l p).2.1, ptrB] [] := by
 have hho := headof_ok 16
 have hop := open_ok l p (ofT 16) hp hl hw
 have hoe := open_err l p (ofT 16) hp hl hw
 have hmem := openP_mem l p (ofT 16)
 unfold rawXs
 generalize openP l p (ofT 16) = X at *
 obtain ⟨x, q, e⟩ := X
 dsimp only at *
 by_cases he : e = 0
 · subst he
   have hop := hop rfl
   rw [if_pos rfl]
   have hal := all_ok x (by omega) (fun y hy => hw y (hmem.2 y hy))
   generalize allP x = A at *
   refine Ct_intro Tryz.func44 rfl rfl rfl rfl rfl (fun E hn hb => ?_)
   repeat refine nxw ?_
   refine du3E [72] [(2, 0), (2, 72)] ?_
   repeat (first | refine nx ?_ | refine dcn1 [0] hn hop ?_)
   exact rt1 []
 · have hoe := hoe he
   rw [if_neg he]
   refine Ct_intro Tryz.func44 rfl rfl rfl rfl rfl (fun E hn hb => ?_)
   repeat refine nxw ?_
   refine du3E [] [(2, 0)] ?_
   repeat (first | refine nx ?_ | refine dcn1 [0] hn hoe ?_)
   exact rtU []
theorem keptL_ok (g : FuncId) (l : List Int) (p q : Nat) (x : List ExT) (hg : Ct Tryz.prog g [.c (.ptr 1 0)] [curB l p, ptrB] (exsE x 0) [curB l q, ptrB] []) :
   Ct Tryz.prog 43 [.c (.ptr 0 0), .c (.fn (.func g) [] [.ptr 1 0])] [curB l p, ptrB] (exsE x 0) [curB l q, ptrB] [] := by
 have h1 := at_ok l p
 refine Ct_intro Tryz.func43 rfl rfl rfl rfl rfl (fun E hn hb => ?_)
 repeat refine nx ?_
 exact rt1 []
theorem keptL_err (g : FuncId) (l : List Int) (p q : Nat) (x : List ExT) (e : Int) (he : e ≠ 0) (hq : p ≤ q) (hl : q ≤ 1000000) (hg : Ct Tryz.prog g [.c (.ptr 1 0)] [curB l p, ptrB] (exsE x e) [curB l q, ptrB] []) :
   Ct Tryz.prog 43 [.c (.ptr 0 0), .c (.fn (.func g) [] [.ptr 1 0])] [curB l p, ptrB] (exsE [] e) [curB l p, ptrB] [] := by
 have h1 := at_ok l p
 have hbk := back_ok l q p hq hl
 refine Ct_intro Tryz.func43 rfl rfl rfl rfl rfl (fun E hn hb => ?_)
 repeat refine nx ?_
 exact rtU []
theorem xread_ok (l : List Int) (p : Nat) (hp : p ≤ l.length) (hl : l.length ≤ 1000000) (hw : WfB l) : Ct Tryz.prog 10 [.c (.ptr 0 0)] [curB l p] (exsE (exsR l p).1 (exsR l p).2.2) [curB l (exsR l p).2.1] [] := by
 have h := rawXs_ok l p hp hl hw
 have hle := rawXs_le l p hp
 have hk : Ct Tryz.prog 43 [.c (.ptr 0 0), .c (.fn (.func 44) [] [.ptr 1 0])] [curB l p, ptrB] (exsE (exsR l p).1 (exsR l p).2.2) [curB l (exsR l p).2.1, ptrB] [] := by
   rw [exsR_keep]
   by_cases he : (rawXs l p).2.2 = 0
   · rw [keepP_ok _ _ _ he]
     rw [he] at h ⊢
     exact keptL_ok 44 l p _ _ h
   · rw [keepP_err _ _ _ he]
     exact keptL_err 44 l p _ _ _ he hle.1 (by omega) h
 refine Ct_intro Tryz.func10 rfl rfl rfl rfl rfl (fun E hn hb => ?_)
 repeat refine nx ?_
 refine s_call [0, 65] hk rfl rfl (by rw [hn]; rfl) rfl rfl (by trivial) ⟨rfl, ⟨rfl, rfl⟩, (by simp [ordL]), rfl⟩ ?_
 repeat refine nx ?_
 exact rt1 []

def W32 (x : Int) : Prop := 0 ≤ x ∧ x < 4294967296
structure V8 where
 a : Int
 b : Int
 c : Int
 d : Int
 e : Int
 f : Int
 g : Int
 h : Int
def V8.l (v : V8) : List Int := [v.a, v.b, v.c, v.d, v.e, v.f, v.g, v.h]
def V8.ok (v : V8) : Prop := W32 v.a ∧ W32 v.b ∧ W32 v.c ∧ W32 v.d ∧ W32 v.e ∧ W32 v.f ∧ W32 v.g ∧ W32 v.h
def KS : List Int := [
 0x428a2f98, 0x71374491, 0xb5c0fbcf, 0xe9b5dba5, 0x3956c25b, 0x59f111f1, 0x923f82a4, 0xab1c5ed5,
 0xd807aa98, 0x12835b01, 0x243185be, 0x550c7dc3, 0x72be5d74, 0x80deb1fe, 0x9bdc06a7, 0xc19bf174,
 0xe49b69c1, 0xefbe4786, 0x0fc19dc6, 0x240ca1cc, 0x2de92c6f, 0x4a7484aa, 0x5cb0a9dc, 0x76f988da,
 0x983e5152, 0xa831c66d, 0xb00327c8, 0xbf597fc7, 0xc6e00bf3, 0xd5a79147, 0x06ca6351, 0x14292967,
 0x27b70a85, 0x2e1b2138, 0x4d2c6dfc, 0x53380d13, 0x650a7354, 0x766a0abb, 0x81c2c92e, 0x92722c85,
 0xa2bfe8a1, 0xa81a664b, 0xc24b8b70, 0xc76c51a3, 0xd192e819, 0xd6990624, 0xf40e3585, 0x106aa070,
 0x19a4c116, 0x1e376c08, 0x2748774c, 0x34b0bcb5, 0x391c0cb3, 0x4ed8aa4a, 0x5b9cca4f, 0x682e6ff3,
 0x748f82ee, 0x78a5636f, 0x84c87814, 0x8cc70208, 0x90befffa, 0xa4506ceb, 0xbef9a3f7, 0xc67178f2]
def wordBytes (x : Int) : List Int := [x / 16777216 % 256, x / 65536 % 256, x / 256 % 256, x % 256]
def V8.bytes (v : V8) : List Int := v.l.flatMap wordBytes

@[simp] theorem KS_len : KS.length = 64 := rfl
@[simp] theorem KS_nil : KS ≠ [] := by intro h; cases h
abbrev u32C (x : Int) : Cell := .lf (.v (.int .u32 x))

abbrev hC (v : V8) (bg : Bool) (X : Cell) (n : Int) : List Cell := [u32C v.a, u32C v.b, u32C v.c, u32C v.d, u32C v.e, u32C v.f, u32C v.g, u32C v.h, .lf (.v (.bool bg)), X, .lf (.v (.int .i64 n))]
end Go.Proofs.YtaagjnlkinojcaaGreatDoor

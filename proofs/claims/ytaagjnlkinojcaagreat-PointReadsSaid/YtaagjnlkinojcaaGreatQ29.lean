/-
  Chapter 16: the document's place and flags read. The conditions: rows of at most a hundred thousand bytes.
-/
import Derived.Test.YtaagjnlkinojcaaGreatQ25
import Derived.Test.YtaagjnlkinojcaaGreatO6
namespace Go.Proofs.YtaagjnlkinojcaaGreat
set_option linter.unusedSimpArgs false
set_option linter.unusedVariables false
open Go.Sx
set_option maxRecDepth 10000
abbrev ptL (p : PtT) : List Leaf := [wpL p.1, .ints .i64 p.2.1, .recs 3 (gnR p.2.2)]
abbrev ptR (l : List PtT) : List (List Leaf) := l.map ptL
abbrev ptV (l : List PtT) : Av := .c (.lf (.recs 3 (ptR l)))
theorem z5Z (l : List PtT) (g : PtT) : ptR (l ++ [g]) = ptR l ++ [ptL g] := List.map_append
theorem zaJ {x : List Int} {p q : Nat} {g : PtT} (hw : WfB x) (hp : p ≤ x.length) (h : z1H x p = (g, q, 0)) : p < q := by
 unfold z1H at h
 dsimp only at h
 have hle := z2h x p (ofT 16) hp
 have hb := @z4B x (z0g x p (ofT 16)).1 p (z0g x p (ofT 16)).2.1 (ofT 16) hw
 generalize z0g x p (ofT 16) = X at *
 obtain ⟨y, r, e⟩ := X
 dsimp only at *
 by_cases he : e = 0
 · subst he
   rw [if_pos rfl] at h
   by_cases h1 : (z6m y).2 = 0
   · rw [if_pos h1] at h
     simp only [Prod.mk.injEq] at h
     obtain ⟨_, rfl, _⟩ := h
     obtain ⟨_, h2⟩ := hb rfl
     have hpos : 0 < (z0q (ofT 16) y).length := z2a _ _
     have hlen := congrArg List.length h2
     rw [List.length_append, List.length_drop, List.length_drop] at hlen
     omega
   · rw [if_neg h1] at h
     simp only [Prod.mk.injEq] at h
     exact absurd h.2.2 h1
 · rw [if_neg he] at h
   simp only [Prod.mk.injEq] at h
   exact absurd h.2.2 he
def z7j (x : List Int) : Nat → Nat → List PtT → Nat
 | 0, p, _ => p
 | f + 1, p, acc => if p < x.length then (if acc.length = 10000 then p else let r := z1H x p; if r.2.2 = 0 then z7j x f r.2.1 (acc ++ [r.1]) else r.2.1) else p
theorem z6K (l : List Int) (p : Nat) (hp : p ≤ l.length) (hl : l.length ≤ 98000) (hw : WfB l) : Ct Tryz.prog 14 [.c (.ptr 0 0)] [z04 l p] (.tup [ptA (z1H l p).1, lv (.int .i64 (z1H l p).2.2)]) [z04 l (z1H l p).2.1] [] := by
 have h := zhF l p hp hl hw
 generalize z1H l p = R at *
 obtain ⟨⟨w, r, g⟩, s, f⟩ := R
 dsimp only at *
 rcases w with _ | ⟨w1, w2⟩
 · change Ct _ _ _ _ (.tup [.agg [.lf (.v (.pointer none)), .lf (.ints .i64 r), .lf (.recs 3 (gnR g))], lv (.int .i64 f)]) _ _ at h
   show Ct _ _ _ _ (.tup [.agg [.lf (.v (.pointer none)), .lf (.ints .i64 r), .lf (.recs 3 (gnR g))], lv (.int .i64 f)]) _ _
   refine z00 Tryz.func14 rfl rfl rfl rfl rfl (fun E hn hb => ?_)
   repeat refine nx ?_
   exact rt1 []
 · change Ct _ _ _ _ (.tup [.agg [.lf (.obj [.recs 3 (gnR w1), z1t w2]), .lf (.ints .i64 r), .lf (.recs 3 (gnR g))], lv (.int .i64 f)]) _ _ at h
   show Ct _ _ _ _ (.tup [.agg [.lf (.obj [.recs 3 (gnR w1), z1t w2]), .lf (.ints .i64 r), .lf (.recs 3 (gnR g))], lv (.int .i64 f)]) _ _
   refine z00 Tryz.func14 rfl rfl rfl rfl rfl (fun E hn hb => ?_)
   repeat refine nx ?_
   exact rt1 []
abbrev zfy (x : List PtT) (e : Int) : Av := .tup [ptV x, lv (.int .i64 e)]
set_option maxHeartbeats 8000000 in
theorem zdV (l : List Int) (hl : l.length ≤ 98000) (hw : WfB l) (h0 : ¬ l = []) : Ct Tryz.prog 64 [.c (.ptr 0 0)] [z04 l 0] (zfy (z36 l (l.length + 1) 0 []).1 (z36 l (l.length + 1) 0 []).2) [z04 l (z7j l (l.length + 1) 0 [])] [] := by
 have hlf0 := z0R l 0 (Nat.zero_le _) (by omega)
 obtain ⟨R, hR⟩ : ∃ R, z36 l (l.length + 1) 0 [] = R := ⟨_, rfl⟩
 obtain ⟨Z, hZ⟩ : ∃ Z, z7j l (l.length + 1) 0 [] = Z := ⟨_, rfl⟩
 rw [hR, hZ]
 have hpos : 0 < l.length := List.length_pos_iff.2 h0
 refine z00 Tryz.func64 rfl rfl rfl rfl rfl (fun E hn hb => ?_)
 repeat refine nx ?_
 refine z10 4 900 3 (.recs 3 []) rfl rfl (.inr (.inr ⟨_, rfl⟩)) ?_
 refine z0a (St.le_of (l := [(0, .c (.ptr 0 0)), (4, .c (.own 900 3 0 (ptR []).length))]) (h := [(0, z04 l 0), (900, .row (.recs 3 (ptR [])))]) (by refine ⟨?_, ?_⟩ <;> (repeat' (first | exact trivial | exact rfl | refine ⟨?_, ?_⟩)) <;> first | exact rfl | (simp; done) | skip)) ?_
 refine z0j (ι := {s : Nat × Nat × List PtT // s.2.1 ≤ l.length ∧ l.length - s.2.1 < s.1 ∧ s.2.2.length ≤ 10000 ∧ z36 l s.1 s.2.1 s.2.2 = R ∧ z7j l s.1 s.2.1 s.2.2 = Z}) (fun s => St.of [(0, .c (.ptr 0 0)), (4, .c (.own 900 3 0 (ptR s.1.2.2).length))] [(0, z04 l s.1.2.1), (900, .row (.recs 3 (ptR s.1.2.2)))]) (fun s => s.1.1) (fun s => ?_) ⟨(l.length + 1, 0, []), Nat.zero_le _, by dsimp only; omega, by simp, hR, hZ⟩
 obtain ⟨⟨f, pp, acc⟩, hpp, hf, h16, hx, hz⟩ := s
 dsimp only at hpp hf h16 hx hz ⊢
 obtain ⟨f, rfl⟩ : ∃ m, f = m + 1 := ⟨f - 1, by omega⟩
 have hml : (ptR acc).length = acc.length := List.length_map ..
 have hlf := z0R l pp hpp (by omega)
 rw [z36] at hx
 rw [z7j] at hz
 by_cases hlt : pp < l.length
 · rw [if_pos hlt] at hx hz
   by_cases h6 : acc.length = 10000
   · rw [if_pos h6] at hx hz
     subst hx hz
     repeat refine nx ?_
     exact rtU []
   · rw [if_neg h6] at hx hz
     have hrd := z6K l pp hpp hl hw
     have hle := z9o l pp hpp
     have hps := @zaJ l pp (z1H l pp).2.1 (z1H l pp).1 hw hpp
     generalize z1H l pp = S at *
     obtain ⟨g, q1, e1⟩ := S
     dsimp only at hrd hx hle hps hz
     by_cases he1 : e1 = 0
     · subst he1
       rw [if_pos rfl] at hx hz
       have hps := hps rfl
       obtain ⟨w, r, g⟩ := g
       rcases w with _ | ⟨w1, w2⟩
       · change Ct _ _ _ _ (.tup [.agg [.lf (.v (.pointer none)), .lf (.ints .i64 r), .lf (.recs 3 (gnR g))], _]) _ _ at hrd
         repeat refine nx ?_
         refine z06 ⟨(f, q1, acc ++ [(none, r, g)]), hle.2, by dsimp only; omega, by simp; omega, hx, hz⟩ (by dsimp only; omega) (St.le_of ⟨⟨rfl, ?_⟩, ⟨rfl, ?_⟩⟩)
         · dsimp only; rw [z5Z]; rfl
         · dsimp only; rw [z5Z]; rfl
       · change Ct _ _ _ _ (.tup [.agg [.lf (.obj [.recs 3 (gnR w1), z1t w2]), .lf (.ints .i64 r), .lf (.recs 3 (gnR g))], _]) _ _ at hrd
         repeat refine nx ?_
         refine z06 ⟨(f, q1, acc ++ [(some (w1, w2), r, g)]), hle.2, by dsimp only; omega, by simp; omega, hx, hz⟩ (by dsimp only; omega) (St.le_of ⟨⟨rfl, ?_⟩, ⟨rfl, ?_⟩⟩)
         · dsimp only; rw [z5Z]; rfl
         · dsimp only; rw [z5Z]; rfl
     · rw [if_neg he1] at hx hz
       subst hx hz
       obtain ⟨w, r, g⟩ := g
       rcases w with _ | ⟨w1, w2⟩
       · change Ct _ _ _ _ (.tup [.agg [.lf (.v (.pointer none)), .lf (.ints .i64 r), .lf (.recs 3 (gnR g))], _]) _ _ at hrd
         repeat refine nx ?_
         exact rtU []
       · change Ct _ _ _ _ (.tup [.agg [.lf (.obj [.recs 3 (gnR w1), z1t w2]), .lf (.ints .i64 r), .lf (.recs 3 (gnR g))], _]) _ _ at hrd
         repeat refine nx ?_
         exact rtU []
 · rw [if_neg hlt] at hx hz
   subst hx hz
   repeat refine nx ?_
   refine z2O 2 ?_
   exact rt1 []
theorem zad (l : List Int) (p : Nat) (hp : p ≤ l.length) (hl : l.length ≤ 98000) (hw : WfB l) : Ct Tryz.prog 16 [.c (.ptr 0 0)] [z04 l p] (zfy (z3F l p).1 (z3F l p).2.2) [z04 l (z3F l p).2.1] [] := by
 have hop := z1V l p (ofT 16) hp (by omega) hw
 have hoe := z2x l p (ofT 16) hp (by omega) hw
 have hmem := z0w l p (ofT 16)
 have hof := z1E 16
 have hat := z1q l p
 have hle0 := z2h l p (ofT 16) hp
 unfold z3F
 dsimp only
 generalize z0g l p (ofT 16) = X at *
 obtain ⟨x, q, e⟩ := X
 dsimp only at *
 by_cases he : e = 0
 · subst he
   have hop := hop rfl
   rw [if_pos rfl]
   have hbk := z1x l q p hle0.1 (by omega)
   by_cases h0 : x = []
   · subst h0
     have hk : Ct Tryz.prog 64 [.c (.ptr 0 0)] [z04 [] 0] (zfy [] 6) [z04 [] 0] [] := by
       have hlf0 := z0R [] 0 (Nat.zero_le _) (by decide)
       refine z00 Tryz.func64 rfl rfl rfl rfl rfl (fun E hn hb => ?_)
       repeat refine nx ?_
       exact rtU []
     rw [if_pos (show ([] : List Int).length = 0 from rfl)]
     refine z00 Tryz.func16 rfl rfl rfl rfl rfl (fun E hn hb => ?_)
     repeat refine nx ?_
     exact rtU []
   · have hpos : 0 < x.length := List.length_pos_iff.2 h0
     rw [if_neg (by omega)]
     have hk := zdV x (by omega) (fun z hz => hw z (hmem.2 z hz)) h0
     generalize z7j x (x.length + 1) 0 [] = Z at *
     generalize z36 x (x.length + 1) 0 [] = R at *
     obtain ⟨r, f⟩ := R
     dsimp only at *
     by_cases hf : f = 0
     · subst hf
       rw [if_pos rfl]
       refine z00 Tryz.func16 rfl rfl rfl rfl rfl (fun E hn hb => ?_)
       repeat refine nx ?_
       exact rt1 []
     · rw [if_neg hf]
       refine z00 Tryz.func16 rfl rfl rfl rfl rfl (fun E hn hb => ?_)
       repeat refine nx ?_
       exact rtU []
 · have hoe := hoe he
   rw [if_neg he]
   refine z00 Tryz.func16 rfl rfl rfl rfl rfl (fun E hn hb => ?_)
   repeat refine nx ?_
   exact rtU []

def z1j (l : List Int) (p : Nat) (t : z0m) : List Int × Nat × Bool × Int :=
 if isH l p t = true then (if (z0g l p t).2.2 = 0 then ((z0g l p t).1, (z0g l p t).2.1, true, 0) else ([], p, false, (z0g l p t).2.2)) else ([], p, false, 0)
theorem zdW {l : List Int} {i : Nat} (a : Int) (h : i < l.length) : z3k a (l.drop i) = (decide (a < l.getD i 0) && decide (l.getD i 0 ≤ 8) && z3k (l.getD i 0) (l.drop (i + 1))) := by
 rw [List.drop_eq_getElem_cons h, z3k, List.getD_eq_getElem?_getD, List.getElem?_eq_getElem h]
 rfl
set_option maxHeartbeats 4000000 in
theorem zaK (l : List Int) (hl : l.length ≤ 1000000) : Ct Tryz.prog 87 [I64 l] [] (lv (.bool (z1K l))) [] [] := by
 refine z00 Tryz.func87 rfl rfl rfl rfl rfl (fun E hn hb => ?_)
 repeat refine nx ?_
 refine z0a (St.le_of (l := [(0, I64 l), (3, lv (.int .i64 ((0 : Nat) : Int)))]) (h := []) (by refine ⟨?_, ?_⟩ <;> (repeat' (first | exact trivial | exact rfl | refine ⟨?_, ?_⟩)) <;> first | exact rfl | (simp; done) | skip)) ?_
 refine z0j (ι := {i : Nat // i ≤ l.length ∧ (∃ a : Int, (if i = 0 then a = -1 else a = l.getD (i - 1) 0) ∧ -1 ≤ a ∧ z3k a (l.drop i) = z1K l)}) (fun i => St.of [(0, I64 l), (3, lv (.int .i64 (i.1 : Int)))] []) (fun i => l.length - i.1) (fun i => ?_) ⟨0, Nat.zero_le _, -1, rfl, by decide, by rw [List.drop_zero]; rfl⟩
 obtain ⟨i, hi, a, ha, ha1, hr⟩ := i
 dsimp only
 by_cases hi2 : i < l.length
 · have hq : l.getD (i : Int).toNat 0 = l.getD i 0 := rfl
   rw [zdW a hi2] at hr
   generalize hx : l.getD i 0 = x at *
   by_cases h1 : x < 0
   · rw [decide_eq_false (by omega : ¬ a < x), Bool.false_and, Bool.false_and] at hr
     rw [← hr]
     repeat (first | refine nx ?_ | rw [hq])
     exact rt1 []
   · by_cases h2 : 8 < x
     · rw [decide_eq_false (by omega : ¬ x ≤ 8), Bool.and_false, Bool.false_and] at hr
       rw [← hr]
       repeat (first | refine nx ?_ | rw [hq])
       exact rt1 []
     · by_cases h0 : i = 0
       · subst h0
         rw [if_pos rfl] at ha
         subst ha
         rw [decide_eq_true (by omega : -1 < x), decide_eq_true (by omega : x ≤ 8), Bool.true_and, Bool.true_and] at hr
         repeat (first | refine nx ?_ | rw [hq])
         refine z06 ⟨1, hi2, x, by rw [if_neg (by decide)]; exact hx.symm, by omega, hr⟩ (by dsimp only; omega) (St.le_of ⟨⟨rfl, rfl⟩, trivial⟩)
       · rw [if_neg h0] at ha
         have hq1 : l.getD ((i : Int) - 1).toNat 0 = a := by rw [ha]; congr 1; omega
         by_cases h3 : x ≤ a
         · rw [decide_eq_false (by omega : ¬ a < x), Bool.false_and, Bool.false_and] at hr
           rw [← hr]
           repeat (first | refine nx ?_ | rw [hq] | rw [hq1])
           exact rt1 []
         · rw [decide_eq_true (by omega : a < x), decide_eq_true (by omega : x ≤ 8), Bool.true_and, Bool.true_and] at hr
           repeat (first | refine nx ?_ | rw [hq] | rw [hq1])
           refine z06 ⟨i + 1, hi2, x, by rw [if_neg (by omega)]; exact hx.symm, by omega, hr⟩ (by dsimp only; omega) (St.le_of ⟨⟨rfl, rfl⟩, trivial⟩)
 · obtain rfl : i = l.length := by omega
   rw [List.drop_length] at hr
   rw [← hr]
   repeat refine nx ?_
   exact rt1 []
theorem zc3 (g : List GnT) (hg : ∀ x ∈ g, GnB x) (hl : g.length ≤ 1000000) : Ct Tryz.prog 99 [gnV g] [] (lv (.bool (z31 g))) [] [] := by
 have hml : (gnR g).length = g.length := List.length_map ..
 unfold z31
 refine z00 Tryz.func99 rfl rfl rfl rfl rfl (fun E hn hb => ?_)
 repeat refine nx ?_
 refine z0a (St.le_of (l := [(0, gnV g), (3, lv (.int .i64 ((0 : Nat) : Int)))]) (h := []) (by refine ⟨?_, ?_⟩ <;> (repeat' (first | exact trivial | exact rfl | refine ⟨?_, ?_⟩)) <;> first | exact rfl | (simp; done) | skip)) ?_
 refine z0j (ι := {i : Nat // i ≤ g.length ∧ ∀ j, j < i → z1s (g.getD j gn0) = true}) (fun i => St.of [(0, gnV g), (3, lv (.int .i64 (i.1 : Int)))] []) (fun i => g.length - i.1) (fun i => ?_) ⟨0, Nat.zero_le _, fun j hj => by omega⟩
 obtain ⟨i, hi, hu⟩ := i
 dsimp only
 by_cases hi2 : i < g.length
 · have hq : g.getD (i : Int).toNat default = g.getD i gn0 := rfl
   have hbr := hg _ (z2Z (d := gn0) hi2)
   have hw := z6r _ hbr
   by_cases ha : z1s (g.getD i gn0) = true
   · rw [ha] at hw
     generalize hA : g.getD i gn0 = r at *
     obtain ⟨k, b, n⟩ := r
     repeat (first | refine nx ?_ | rw [hq])
     refine z06 ⟨i + 1, hi2, fun j hj => by
       by_cases e : j = i
       · subst e; rw [hA]; exact ha
       · exact hu j (by omega)⟩ (by dsimp only; omega) (St.le_of ⟨⟨rfl, rfl⟩, trivial⟩)
   · rw [z6Z hi2 ha, Bool.and_false]
     rw [Bool.eq_false_iff.2 ha] at hw
     generalize hA : g.getD i gn0 = r at *
     obtain ⟨k, b, n⟩ := r
     repeat (first | refine nx ?_ | rw [hq])
     exact rt1 []
 · obtain rfl : i = g.length := by omega
   rw [z8H hu, Bool.and_true]
   repeat refine nx ?_
   refine rt2 [] (congrArg (fun x => lv (.bool x)) ?_) trivial
   rw [hml, Bool.eq_iff_iff]
   simp
   try omega
set_option maxHeartbeats 4000000 in
theorem z7R (l : List Int) (p : Nat) (n : Int) (b : Bool) (hp : p ≤ l.length) (hl : l.length ≤ 100000) (hw : WfB l) : Ct Tryz.prog 60 [B8 l, lv (.int .i64 (p : Int)), lv (.int .i64 n), lv (.bool b)] [] (.tup [B8 (z1j l p (2, n, b)).1, lv (.int .i64 ((z1j l p (2, n, b)).2.1 : Int)), lv (.bool (z1j l p (2, n, b)).2.2.1), lv (.int .i64 (z1j l p (2, n, b)).2.2.2)]) [] [] := by
 have hrd := z3p l p hp (by omega) hw
 have hop := z2t l p (2, n, b) hp (by omega) hw
 have hat := z75 n b
 unfold z1j isH
 generalize hR : z09 l p = R at *
 generalize z0g l p (2, n, b) = X at *
 obtain ⟨x, q, e⟩ := X
 obtain ⟨⟨⟨c, k, m⟩, z⟩, r, er⟩ := R
 dsimp only at *
 by_cases h1 : er = 0
 · subst h1
   rw [decide_eq_true (rfl : (0 : Int) = 0), Bool.true_and]
   by_cases h2 : (c, k, m) = ((2, n, b) : z0m)
   · rw [decide_eq_true h2, if_pos rfl]
     simp only [Prod.mk.injEq] at h2
     obtain ⟨rfl, rfl, rfl⟩ := h2
     by_cases he : e = 0
     · subst he
       rw [if_pos rfl]
       refine z00 Tryz.func60 rfl rfl rfl rfl rfl (fun E hn hb => ?_)
       repeat refine nx ?_
       refine z05 rfl (by simp) (fun hc => ?_) (fun hc => ?_)
       · skip
         exfalso
         change (z0U (z0A (2, k, m)) (z0A (2, k, m)) != true) = true at hc
         rw [eqT, decide_eq_true rfl] at hc
         exact absurd hc (by decide)
       · repeat refine nx ?_
         exact rt1 []
     · rw [if_neg he]
       refine z00 Tryz.func60 rfl rfl rfl rfl rfl (fun E hn hb => ?_)
       repeat refine nx ?_
       refine z05 rfl (by simp) (fun hc => ?_) (fun hc => ?_)
       · skip
         exfalso
         change (z0U (z0A (2, k, m)) (z0A (2, k, m)) != true) = true at hc
         rw [eqT, decide_eq_true rfl] at hc
         exact absurd hc (by decide)
       · repeat refine nx ?_
         exact rtU []
   · rw [decide_eq_false h2, if_neg (by decide)]
     refine z00 Tryz.func60 rfl rfl rfl rfl rfl (fun E hn hb => ?_)
     repeat refine nx ?_
     refine z05 rfl (by simp) (fun hc => ?_) (fun hc => ?_)
     · repeat refine nx ?_
       exact rtU []
     · exfalso
       change (z0U (z0A (c, k, m)) (z0A (2, n, b)) != true) = false at hc
       rw [eqT, decide_eq_false h2] at hc
       exact absurd hc (by decide)
 · rw [decide_eq_false h1, Bool.false_and, if_neg (by decide)]
   refine z00 Tryz.func60 rfl rfl rfl rfl rfl (fun E hn hb => ?_)
   repeat refine nx ?_
   exact rtU []

abbrev rwA (t : Bool) (w : WhT) : Av := .agg [.lf (.v (.bool t)), .lf (.recs 3 (gnR w.1)), .lf (z1t w.2)]
def whD : Option WhT → WhT
 | none => ([], [])
 | some w => w
set_option maxHeartbeats 4000000 in
theorem zdX (t : Bool) (w : WhT) (h : WhB w) : Ct Tryz.prog 74 [rwA t w] [] (lv (.bool (z6k w))) [] [] := by
 obtain ⟨g, s⟩ := w
 have hg := zc3 g h.g h.l
 have hs := zb7 s h.a h.s
 have hml : (gnR g).length = g.length := List.length_map ..
 have hms : (s.map atL).length = s.length := List.length_map ..
 unfold z6k
 dsimp only
 by_cases h0 : s = []
 · subst h0
   rw [if_neg (by decide)]
   generalize z31 g = G at *
   refine z00 Tryz.func74 rfl rfl rfl rfl rfl (fun E hn hb => ?_)
   repeat refine nx ?_
   exact rt1 []
 · have hpos : 0 < s.length := List.length_pos_iff.2 h0
   rw [if_pos hpos]
   generalize z11 s = S at *
   by_cases hg0 : g = []
   · subst hg0
     refine z00 Tryz.func74 rfl rfl rfl rfl rfl (fun E hn hb => ?_)
     repeat refine nx ?_
     refine rt2 [] (congrArg (fun x => lv (.bool x)) ?_) trivial
     cases S <;> rfl
   · have hgp : 0 < g.length := List.length_pos_iff.2 hg0
     rw [decide_eq_false (by omega : ¬ g.length = 0), Bool.false_and]
     refine z00 Tryz.func74 rfl rfl rfl rfl rfl (fun E hn hb => ?_)
     repeat refine nx ?_
     refine rt2 [] (congrArg (fun x => lv (.bool x)) ?_) trivial
     rw [show (((gnR (g, s).1).length : Int) == 0) = false by rw [hml, beq_eq_false_iff_ne]; omega]
     rfl
abbrev z5x (p : PtT) : Av := .agg [.lf (.v (.bool p.1.isSome)), .lf (.recs 3 (gnR (whD p.1).1)), .lf (z1t (whD p.1).2), .lf (.ints .i64 p.2.1), .lf (.recs 3 (gnR p.2.2))]
set_option maxHeartbeats 4000000 in
theorem z8k (p : PtT) (h : PtB p) : Ct Tryz.prog 42 [z5x p] [] (lv (.bool (z6l p))) [] [] := by
 obtain ⟨o, r, g⟩ := p
 obtain ⟨h1, h2, h3, h4⟩ := h
 dsimp only at *
 have hg := zc3 g h4 h3
 have hr := zaK r h2
 have hml : (gnR g).length = g.length := List.length_map ..
 unfold z6l
 dsimp only
 generalize z31 g = G at *
 generalize z1K r = R at *
 rcases o with _ | w
 · show Ct _ _ [.agg [.lf (.v (.bool false)), .lf (.recs 3 (gnR [])), .lf (z1t []), .lf (.ints .i64 r), .lf (.recs 3 (gnR g))]] _ _ _ _
   by_cases h0 : g = []
   · subst h0
     refine z00 Tryz.func42 rfl rfl rfl rfl rfl (fun E hn hb => ?_)
     repeat (first | refine nx ?_ | refine wgF (lv (.bool false)) hn ?_)
     refine rt2 [] (congrArg (fun x => lv (.bool x)) ?_) trivial
     first | rfl | (cases R <;> rfl) | (simp; done) | (rw [hml]; simp; omega) | (rw [show decide ((0 : Int) < ((gnR g).length : Int)) = true by rw [decide_eq_true_iff, hml]; omega]; cases R <;> rfl)
   · have hgp : 0 < g.length := List.length_pos_iff.2 h0
     rw [decide_eq_false (by omega : ¬ g.length = 0), decide_eq_true hgp]
     cases G with
     | true =>
       refine z00 Tryz.func42 rfl rfl rfl rfl rfl (fun E hn hb => ?_)
       repeat (first | refine nx ?_ | refine z4q rfl rfl ?_ | refine wgF (lv (.bool false)) hn ?_)
       refine rt2 [] (congrArg (fun x => lv (.bool x)) ?_) trivial
       first | rfl | (cases R <;> rfl) | (simp; done) | (rw [hml]; simp; omega) | (rw [show decide ((0 : Int) < ((gnR g).length : Int)) = true by rw [decide_eq_true_iff, hml]; omega]; cases R <;> rfl)
     | false =>
       refine z00 Tryz.func42 rfl rfl rfl rfl rfl (fun E hn hb => ?_)
       repeat (first | refine nx ?_ | refine z4q rfl rfl ?_ | refine wgF (lv (.bool false)) hn ?_)
       refine rt2 [] (congrArg (fun x => lv (.bool x)) ?_) trivial
       first | rfl | (cases R <;> rfl) | (simp; done) | (rw [hml]; simp; omega) | (rw [show decide ((0 : Int) < ((gnR g).length : Int)) = true by rw [decide_eq_true_iff, hml]; omega]; cases R <;> rfl)
 · have hw := zdX true w h1
   show Ct _ _ [.agg [.lf (.v (.bool true)), .lf (.recs 3 (gnR w.1)), .lf (z1t w.2), .lf (.ints .i64 r), .lf (.recs 3 (gnR g))]] _ _ _ _
   rw [show zak (some w) = z6k w from rfl]
   generalize z6k w = A at *
   obtain ⟨wn, ws⟩ := w
   cases A with
   | false =>
     refine z00 Tryz.func42 rfl rfl rfl rfl rfl (fun E hn hb => ?_)
     repeat (first | refine nx ?_ | refine z4q rfl rfl ?_ | refine wgF (lv (.bool false)) hn ?_)
     refine rt2 [] (congrArg (fun x => lv (.bool x)) ?_) trivial
     first | rfl | (cases R <;> rfl) | (simp; done) | (rw [hml]; simp; omega) | (rw [show decide ((0 : Int) < ((gnR g).length : Int)) = true by rw [decide_eq_true_iff, hml]; omega]; cases R <;> rfl)
   | true =>
     by_cases h0 : g = []
     · subst h0
       refine z00 Tryz.func42 rfl rfl rfl rfl rfl (fun E hn hb => ?_)
       repeat (first | refine nx ?_ | refine z4q rfl rfl ?_ | refine wgF (lv (.bool false)) hn ?_)
       refine rt2 [] (congrArg (fun x => lv (.bool x)) ?_) trivial
       first | rfl | (cases R <;> rfl) | (simp; done) | (rw [hml]; simp; omega) | (rw [show decide ((0 : Int) < ((gnR g).length : Int)) = true by rw [decide_eq_true_iff, hml]; omega]; cases R <;> rfl)
     · have hgp : 0 < g.length := List.length_pos_iff.2 h0
       rw [decide_eq_false (by omega : ¬ g.length = 0), decide_eq_true hgp]
       cases G with
       | true =>
         refine z00 Tryz.func42 rfl rfl rfl rfl rfl (fun E hn hb => ?_)
         repeat (first | refine nx ?_ | refine z4q rfl rfl ?_ | refine wgF (lv (.bool false)) hn ?_)
         refine rt2 [] (congrArg (fun x => lv (.bool x)) ?_) trivial
         first | rfl | (cases R <;> rfl) | (simp; done) | (rw [hml]; simp; omega) | (rw [show decide ((0 : Int) < ((gnR g).length : Int)) = true by rw [decide_eq_true_iff, hml]; omega]; cases R <;> rfl)
       | false =>
         refine z00 Tryz.func42 rfl rfl rfl rfl rfl (fun E hn hb => ?_)
         repeat (first | refine nx ?_ | refine z4q rfl rfl ?_ | refine wgF (lv (.bool false)) hn ?_)
         refine rt2 [] (congrArg (fun x => lv (.bool x)) ?_) trivial
         first | rfl | (cases R <;> rfl) | (simp; done) | (rw [hml]; simp; omega) | (rw [show decide ((0 : Int) < ((gnR g).length : Int)) = true by rw [decide_eq_true_iff, hml]; omega]; cases R <;> rfl)

theorem z6L {α : Type} (z : α) (l : List Int) (p : Nat) (t : z0m) (rd : List Int → α × Nat × Int) : z0o z l p t rd = (if (z1j l p t).2.2.1 = true then (if (rd (z1j l p t).1).2.2 = 0 then (if (rd (z1j l p t).1).2.1 < (z1j l p t).1.length then (z, (z1j l p t).2.1, 7) else ((rd (z1j l p t).1).1, (z1j l p t).2.1, 0)) else (z, (z1j l p t).2.1, (rd (z1j l p t).1).2.2)) else (z, p, (z1j l p t).2.2.2)) := by
 unfold z0o z1j
 by_cases h1 : isH l p t = true
 · rw [if_pos h1, if_pos h1]
   by_cases h2 : (z0g l p t).2.2 = 0
   · rw [if_pos h2, if_pos h2, if_pos rfl]
   · rw [if_neg h2, if_neg h2, if_neg Bool.false_ne_true]
 · rw [if_neg h1, if_neg h1, if_neg Bool.false_ne_true]
theorem z60 (l : List Int) (p : Nat) (t : z0m) : (z1j l p t).1.length ≤ l.length ∧ ∀ x ∈ (z1j l p t).1, x ∈ l := by
 have h := z0w l p t
 unfold z1j
 split
 · split
   · exact h
   · exact ⟨Nat.zero_le _, fun x hx => absurd hx (by simp)⟩
 · exact ⟨Nat.zero_le _, fun x hx => absurd hx (by simp)⟩
theorem z96 {l : List Int} {p : Nat} {t : z0m} (h : ¬ (z1j l p t).2.2.1 = true) : (z1j l p t).1 = [] ∧ (z1j l p t).2.1 = p := by
 unfold z1j at h ⊢
 split at h
 · rename_i h1
   rw [if_pos h1]
   split at h
   · exact absurd rfl h
   · rename_i h2
     rw [if_neg h2]
     exact ⟨rfl, rfl⟩
 · rename_i h1
   rw [if_neg h1]
   exact ⟨rfl, rfl⟩
theorem z7S {l : List Int} {p : Nat} {t : z0m} (h : (z1j l p t).2.2.1 = true) : (z1j l p t).2.2.2 = 0 := by
 unfold z1j at h ⊢
 split at h
 · rename_i h1
   rw [if_pos h1]
   split at h
   · rename_i h2
     rw [if_pos h2]
   · exact absurd h Bool.false_ne_true
 · exact absurd h Bool.false_ne_true
def z97 {α : Type} (p : Nat) (r : α × Nat × Int) : Nat := if r.2.2 = 0 then r.2.1 else p
set_option maxHeartbeats 4000000 in
theorem zd5 (l : List Int) (p : Nat) (n : Int) (hp : p ≤ l.length) (hl : l.length ≤ 98000) (hw : WfB l) : Ct Tryz.prog 59 [B8 l, lv (.int .i64 (p : Int)), lv (.int .i64 n)] [] (.tup [I64 (z0o [] l p (2, n, false) z1U).1, lv (.int .i64 (z97 p (z0o [] l p (2, n, false) z1U) : Int)), lv (.int .i64 (z0o [] l p (2, n, false) z1U).2.2)]) [] [] := by
 have hnx := z7R l p n false hp (by omega) hw
 have hm := z60 l p (2, n, false)
 have hno := @z96 l p (2, n, false)
 have hyes := @z7S l p (2, n, false)
 rw [z6L]
 unfold z97
 generalize z1j l p (2, n, false) = X at *
 obtain ⟨x, q, T, e⟩ := X
 dsimp only at *
 cases T with
 | false =>
   obtain ⟨rfl, rfl⟩ := hno (by decide)
   rw [if_neg (by decide)]
   dsimp only
   rw [ite_self]
   clear hno hyes hm
   by_cases he : e = 0
   · subst he
     refine z00 Tryz.func59 rfl rfl rfl rfl rfl (fun E hn hb => ?_)
     repeat refine nx ?_
     exact rtU []
   · refine z00 Tryz.func59 rfl rfl rfl rfl rfl (fun E hn hb => ?_)
     repeat refine nx ?_
     exact rtU []
 | true =>
   obtain rfl := hyes rfl
   rw [if_pos rfl]
   have hwx : WfB x := fun z hz => hw z (hm.2 z hz)
   have hpa := zd7 x (by omega) hwx
   have hPr := z8y (x := x) hwx
   have hPn := @zhB x
   unfold z1U
   dsimp only
   generalize z2G x = S at *
   obtain ⟨u, s, k⟩ := S
   dsimp only at *
   cases k with
   | false =>
     have hPn := hPn Bool.false_ne_true
     simp only [Prod.mk.injEq] at hPn
     obtain ⟨rfl, rfl, _⟩ := hPn
     have hfl := zaa 0 [] (by simp) (fun z hz => absurd hz (by simp)) (by decide)
     generalize z4f 0 [] = F at *
     obtain ⟨f, fe⟩ := F
     refine z00 Tryz.func59 rfl rfl rfl rfl rfl (fun E hn hb => ?_)
     repeat (first | refine nx ?_ | refine wgF (lv (.bool false)) hn ?_)
     exact rtU []
   | true =>
     obtain ⟨h1, h2, h3⟩ := hPr rfl
     have hfl := zaa u s (by omega) h2 h1
     have hln := z7W u s
     rw [if_pos rfl]
     generalize z4f u s = F at *
     obtain ⟨f, fe⟩ := F
     dsimp only at *
     have hre := zaK f (by omega)
     by_cases hfe : fe = 0
     · subst hfe
       by_cases h0 : f = []
       · subst h0
         rw [show (if (0 : Int) = 0 ∧ ([] : List Int) ≠ [] ∧ z1K [] = true then (([] : List Int), x.length, (0 : Int)) else ([], x.length, 6)) = ([], x.length, 6) from if_neg (fun h => h.2.1 rfl)]
         simp only [show ¬ (6 : Int) = 0 by decide, if_false]
         refine z00 Tryz.func59 rfl rfl rfl rfl rfl (fun E hn hb => ?_)
         repeat (first | refine nx ?_ | refine wgF (lv (.bool false)) hn ?_)
         exact rtU []
       · generalize hR : z1K f = R at *
         cases R with
         | true =>
           rw [show (if (0 : Int) = 0 ∧ f ≠ [] ∧ true = true then (f, x.length, (0 : Int)) else ([], x.length, 6)) = (f, x.length, 0) from if_pos ⟨rfl, h0, rfl⟩]
           simp only [Nat.lt_irrefl, if_false, if_true]
           refine z00 Tryz.func59 rfl rfl rfl rfl rfl (fun E hn hb => ?_)
           repeat (first | refine nx ?_ | refine wgF (lv (.bool false)) hn ?_)
           exact rt1 []
         | false =>
           rw [show (if (0 : Int) = 0 ∧ f ≠ [] ∧ false = true then (f, x.length, (0 : Int)) else ([], x.length, 6)) = ([], x.length, 6) from if_neg (fun h => Bool.false_ne_true h.2.2)]
           simp only [show ¬ (6 : Int) = 0 by decide, if_false]
           refine z00 Tryz.func59 rfl rfl rfl rfl rfl (fun E hn hb => ?_)
           repeat (first | refine nx ?_ | refine wgF (lv (.bool false)) hn ?_)
           exact rtU []
     · rw [show (if fe = 0 ∧ f ≠ [] ∧ z1K f = true then (f, x.length, (0 : Int)) else ([], x.length, 6)) = ([], x.length, 6) from if_neg (fun h => hfe h.1)]
       simp only [show ¬ (6 : Int) = 0 by decide, if_false]
       refine z00 Tryz.func59 rfl rfl rfl rfl rfl (fun E hn hb => ?_)
       repeat (first | refine nx ?_ | refine wgF (lv (.bool false)) hn ?_)
       exact rtU []
end Go.Proofs.YtaagjnlkinojcaaGreat

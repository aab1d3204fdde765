/-
  Chapter 14: steps and names that are right, both sides. The conditions: rows that a machine can hold.
-/
import Derived.Test.YtaagjnlkinojcaaGreatM3
import Derived.Test.YtaagjnlkinojcaaGreatC8
import Derived.Test.YtaagjnlkinojcaaGreatC13
import Derived.Test.YtaagjnlkinojcaaGreatSxQ
import Derived.Test.YtaagjnlkinojcaaGreatSxF
import Derived.Test.YtaagjnlkinojcaaGreatA11
namespace Go.Proofs.YtaagjnlkinojcaaGreat
set_option linter.unusedSimpArgs false
set_option linter.unusedVariables false
open Go Go.Sx
set_option maxRecDepth 10000
abbrev WhT : Type := List GnT × List AtT
def z6u (w : WhT) : Bool := if 0 < w.2.length then decide (w.1.length = 0) && z0B w.2 else z26 w.1

theorem z6n (l : List Int) : ∀ (n p : Nat) (acc : List (List Int)), (z0U l n p acc).2 = 0 → acc.length ≤ (z0U l n p acc).1.length
 | 0, p, acc, _ => by simp [z0U]
 | n + 1, p, acc, h => by
   rw [z0U] at h ⊢
   by_cases c : l.length ≤ p
   · rw [if_pos c]; exact Nat.le_refl _
   · rw [if_neg c] at h ⊢
     by_cases e : ¬ (z13 l p).2.2.2.1 = 0
     · rw [if_pos e] at h; exact absurd h e
     · rw [if_neg e] at h ⊢
       have := z6n l n _ _ h
       simp at this
       omega
theorem zaf (l : List Int) (n p : Nat) (acc : List (List Int)) (h : (z0U l n p acc).2 = 0) (hp : p < l.length) (hn : 0 < n) : acc.length + 1 ≤ (z0U l n p acc).1.length := by
 obtain ⟨k, rfl⟩ : ∃ k, n = k + 1 := ⟨n - 1, by omega⟩
 rw [z0U, if_neg (by omega)] at h ⊢
 by_cases e : ¬ (z13 l p).2.2.2.1 = 0
 · rw [if_pos e] at h; exact absurd h e
 · rw [if_neg e] at h ⊢
   have := z6n l k _ _ h
   simpa using this
theorem zag {m : List Int} (hw : WfB m) (h0 : (z0V m 0).2 = 0) (h1 : (z0V m 0).1.length < 2) (hm : m ≠ []) : (z09 m 0).2.2 = 0 ∧ (z09 m 0).1.2 = (m.length : Int) - ((z09 m 0).2.1 : Int) := by
 have hpos : 0 < m.length := by cases m with | nil => exact absurd rfl hm | cons _ _ => simp
 have hle := z1g m 0 (Nat.zero_le _)
 have hn0 := (z1Z m 0 hw).1
 unfold z0V at h0 h1
 rw [z0U, if_neg (by omega)] at h0 h1
 by_cases e : ¬ (z13 m 0).2.2.2.1 = 0
 · rw [if_pos e] at h0; exact absurd h0 e
 · rw [if_neg e] at h0 h1
   have h2 : ¬ (z13 m 0).2.2.2.2 < m.length := by
     intro hq
     have := zaf m m.length _ _ h0 hq hpos
     simp at this
     simp at h1
     omega
   unfold z13 at e h2
   by_cases c1 : ¬ (z09 m 0).2.2 = 0
   · rw [if_pos c1] at e; exact absurd c1 e
   · rw [if_neg c1] at e h2
     by_cases c2 : (m.length : Int) - (z09 m 0).2.1 < (z09 m 0).1.2
     · rw [if_pos c2] at e; simp at e
     · rw [if_neg c2] at e h2
       dsimp only at h2
       refine ⟨by simpa using c1, ?_⟩
       omega
theorem zf7 {t : List Int} (hw : WfB t) (h : z5a t = true) : ∃ (g : z0q) (x : List Int), z0z g = true ∧ x.length ≤ 16777216 ∧ t = z0i g x := by
 unfold z5a at h
 simp at h
 have hne : t ≠ [] := by
   rintro rfl
   have := h.2
   simp [z0V, z0U] at this
 obtain ⟨h1, h2⟩ := zag hw h.1 (by rw [h.2]; omega) hne
 have hle := z1g t 0 (Nat.zero_le _)
 have hb := z5q (l := t) (p := 0) (q := (z09 t 0).2.1) (t := (z09 t 0).1.1) (n := (z09 t 0).1.2) hw (by rw [← h1])
 refine ⟨(z09 t 0).1.1, t.drop (z09 t 0).2.1, hb.1, by simp; omega, ?_⟩
 have e := hb.2.2.2
 rw [List.drop_zero] at e
 have e2 : (z09 t 0).1.2.toNat = (t.drop (z09 t 0).2.1).length := by simp; omega
 rw [e2] at e
 rw [z0i, List.append_assoc]
 exact e
theorem zf8 (A : List Int) {v : List Int} (hw : WfB v) (h : z5a v = true) : z3V (A ++ v) A.length = (v, A.length + v.length, 0) := by
 obtain ⟨g, x, h1, h2, rfl⟩ := zf7 hw h
 have hr := zaB A x [] g h1 h2
 rw [List.append_nil] at hr
 unfold z3V
 rw [hr]
 dsimp only
 have hlen : (z0i g x).length = (tgL g).length + (z10 x.length).length + x.length := by simp [z0i, Nat.add_assoc]
 rw [if_pos rfl, if_neg (by simp only [List.length_append]; omega), List.drop_left, List.take_of_length_le (by omega)]
 rw [show A.length + (tgL g).length + (z10 x.length).length + (x.length : Int).toNat = A.length + (z0i g x).length by omega]
def AtH (a : AtT) : Prop := WfB a.2 ∧ a.2.length ≤ 1000000
theorem zf9 {a : AtT} (hw : WfB a.2) (h : z1h a = true) : z6i ((z16 a.1).1 ++ a.2) = (a, 0) := by
 unfold z1h at h
 rw [Bool.and_eq_true] at h
 have e : (z16 a.1).1 = z0i (ofT 6) (z0p (z0P a.1)) := by unfold z16; rw [if_pos h.1]
 have h1 := zdx [] a.2 h.1
 rw [List.nil_append, List.length_nil, Nat.zero_add, ← e] at h1
 have h2 := zf8 (z16 a.1).1 hw h.2
 unfold z6i
 rw [h1]
 dsimp only
 rw [if_pos rfl, h2]
 dsimp only
 rw [if_pos rfl, if_neg (by simp)]
theorem zbt {o : List Int} (h : z0N o = true) : (z16 o).1.length ≤ 500 := by
 unfold z16
 rw [if_pos h]
 have := z1p (ofT 6) (z0p (z0P o))
 have := z33 h
 dsimp only
 omega
theorem z4V {a : AtT} (h : z1h a = true) : (atW a).length ≤ a.2.length + 520 := by
 unfold z1h at h
 rw [Bool.and_eq_true] at h
 have := zbt h.1
 have := z1p (ofT 16) ((z16 a.1).1 ++ a.2)
 unfold atW
 rw [List.length_append] at *
 omega
theorem zfa (A C : List Int) {a : AtT} (hb : AtH a) (h : z1h a = true) : z2n (A ++ (atW a ++ C)) A.length = (a, A.length + (atW a).length, 0) := by
 have hi := zf9 hb.1 h
 have hl := hb.2
 have ho := zbt (Bool.and_eq_true _ _ ▸ h : z0N a.1 = true ∧ z5a a.2 = true).1
 have hop := z6a A ((z16 a.1).1 ++ a.2) C (ofT 16) (by decide) (by rw [List.length_append]; omega)
 change z0y (A ++ (atW a ++ C)) A.length (ofT 16) = (_, A.length + (atW a).length, 0) at hop
 unfold z2n
 rw [hop]
 dsimp only
 rw [if_pos rfl, hi]
theorem z99 : ∀ {l : List AtT} {a : AtT} {r : List AtT}, z1z (l ++ a :: r) = true → l ≠ [] → z0v (atW (l.getLastD ([], []))) (atW a) < 0
 | [], _, _, _, h => absurd rfl h
 | [b], a, r, h, _ => by
   simp only [List.cons_append, List.nil_append, z1z, Bool.and_eq_true, decide_eq_true_eq] at h
   exact h.1
 | b :: c :: l, a, r, h, _ => by
   simp only [List.cons_append, z1z, Bool.and_eq_true, decide_eq_true_eq] at h
   have := z99 (l := c :: l) (a := a) (r := r) (by simpa using h.2) (by simp)
   simpa using this
theorem zah {x : List Int} : ∀ (ys : List AtT) (f p : Nat) (acc : List AtT), p ≤ x.length → x.length - p < f → (∀ a ∈ ys, AtH a ∧ z1h a = true) → z1z (acc ++ ys) = true → acc.length + ys.length ≤ 16 → acc ++ ys ≠ [] → x.drop p = ys.flatMap atW → z4a x f p acc = (acc ++ ys, 0)
 | [], 0, p, acc, _, hk, _, _, _, _, _ => by omega
 | [], f + 1, p, acc, hp, hk, _, _, _, hn, hd => by
   have : x.length ≤ p := by simpa using hd
   rw [List.append_nil] at hn
   rw [z4a, if_neg (by omega), if_neg hn, List.append_nil]
 | y :: ys, 0, p, acc, _, hk, _, _, _, _, _ => by omega
 | y :: ys, f + 1, p, acc, hp, hk, hy, hr, hl, _, hd => by
   have hsp : x = x.take p ++ (atW y ++ ys.flatMap atW) := by
     rw [← List.flatMap_cons, ← hd, List.take_append_drop]
   have hlp : (x.take p).length = p := by simp; omega
   obtain ⟨hy1, hy2⟩ := hy y (by simp)
   have hx : z2n x p = (y, p + (atW y).length, 0) := by
     have := zfa (x.take p) (ys.flatMap atW) hy1 hy2
     rwa [← hsp, hlp] at this
   have hge : 0 < (atW y).length := z1L _ _
   have hll := congrArg List.length hd
   rw [List.flatMap_cons, List.length_drop, List.length_append] at hll
   simp only [List.length_cons] at hl
   have hlt : acc ≠ [] → z0v (atW (acc.getLastD ([], []))) (atW y) < 0 := fun h => z99 hr h
   rw [z4a, if_pos (by omega), if_neg (by omega), hx]
   dsimp only
   rw [if_pos rfl, if_neg (fun h => by have := hlt h.1; omega), if_neg (fun h => by have := hlt h.1; omega)]
   have ih := zah (x := x) ys f (p + (atW y).length) (acc ++ [y]) (by omega) (by omega) (fun e he => hy e (by simp [he])) (by simpa using hr) (by simp; omega) (by simp) (by rw [← List.drop_drop, hd, List.flatMap_cons, List.drop_left])
   rw [ih]
   simp
theorem z82 {r : List AtT} (h : z0B r = true) : r ≠ [] ∧ r.length ≤ 16 ∧ (∀ a ∈ r, z1h a = true) ∧ z1z r = true := by
 unfold z0B at h
 simp only [Bool.and_eq_true, decide_eq_true_eq, List.all_eq_true] at h
 exact ⟨fun e => by rw [e] at h; simp at h, h.1.1.2, h.1.2, h.2⟩
theorem zdA {α : Type} {f : α → List Int} {N : Nat} : ∀ {l : List α}, (∀ a ∈ l, (f a).length ≤ N) → (l.flatMap f).length ≤ l.length * N
 | [], _ => by simp
 | a :: l, h => by
   have := zdA (f := f) fun b hb => h b (List.mem_cons_of_mem _ hb)
   have := h a (List.mem_cons_self ..)
   rw [List.flatMap_cons, List.length_append, List.length_cons, Nat.add_mul]
   omega
theorem zfb (A C : List Int) {r : List AtT} (h : z0B r = true) (hb : ∀ a ∈ r, AtH a) : z2K (A ++ (z0m r ++ C)) A.length = (r, A.length + (z0m r).length, 0) := by
 obtain ⟨h1, h2, h3, h4⟩ := z82 h
 have hfl : (r.flatMap atW).length ≤ r.length * 1000520 := zdA fun a ha => by
   have := z4V (h3 a ha)
   have := (hb a ha).2
   omega
 have hop := z6a A (r.flatMap atW) C (ofT 17) (by decide) (by omega)
 change z0y (A ++ (z0m r ++ C)) A.length (ofT 17) = (_, A.length + (z0m r).length, 0) at hop
 unfold z2K
 rw [hop]
 dsimp only
 rw [if_pos rfl, zah (x := r.flatMap atW) r _ 0 [] (Nat.zero_le _) (by omega) (fun a ha => ⟨hb a ha, h3 a ha⟩) h4 (by simpa using h2) (by simpa using h1) rfl]
 rfl
def NmH (n : List (List AtT)) : Prop := ∀ r ∈ n, ∀ a ∈ r, AtH a
theorem zai {x : List Int} : ∀ (ys : List (List AtT)) (f p : Nat) (acc : List (List AtT)), p ≤ x.length → x.length - p < f → NmH ys → (∀ r ∈ ys, z0B r = true) → acc.length + ys.length ≤ 64 → x.drop p = ys.flatMap z0m → z4b x f p acc = (acc ++ ys, 0)
 | [], 0, p, acc, _, hk, _, _, _, _ => by omega
 | [], f + 1, p, acc, hp, hk, _, _, _, hd => by
   have : x.length ≤ p := by simpa using hd
   rw [z4b, if_neg (by omega), List.append_nil]
 | y :: ys, 0, p, acc, _, hk, _, _, _, _ => by omega
 | y :: ys, f + 1, p, acc, hp, hk, hb, hy, hl, hd => by
   have hsp : x = x.take p ++ (z0m y ++ ys.flatMap z0m) := by
     rw [← List.flatMap_cons, ← hd, List.take_append_drop]
   have hlp : (x.take p).length = p := by simp; omega
   have hx : z2K x p = (y, p + (z0m y).length, 0) := by
     have := zfb (x.take p) (ys.flatMap z0m) (hy y (by simp)) (hb y (by simp))
     rwa [← hsp, hlp] at this
   have hge : 0 < (z0m y).length := z1L _ _
   have hll := congrArg List.length hd
   rw [List.flatMap_cons, List.length_drop, List.length_append] at hll
   simp only [List.length_cons] at hl
   rw [z4b, if_pos (by omega), if_neg (by omega), hx]
   dsimp only
   rw [if_pos rfl]
   have ih := zai (x := x) ys f (p + (z0m y).length) (acc ++ [y]) (by omega) (by omega) (fun r hr => hb r (by simp [hr])) (fun e he => hy e (by simp [he])) (by simp; omega) (by rw [← List.drop_drop, hd, List.flatMap_cons, List.drop_left])
   rw [ih]
   simp
theorem z83 {n : List (List AtT)} (h : z0F n = true) : n.length ≤ 64 ∧ ∀ r ∈ n, z0B r = true := by
 unfold z0F at h
 simp only [Bool.and_eq_true, decide_eq_true_eq, List.all_eq_true] at h
 exact h
theorem zfc (A C : List Int) {n : List (List AtT)} (h : z0F n = true) (hb : NmH n) (hl : (n.flatMap z0m).length ≤ 16777216) : z3W (A ++ (z1u n ++ C)) A.length = (n, A.length + (z1u n).length, 0) := by
 obtain ⟨h1, h2⟩ := z83 h
 have hop := z6a A (n.flatMap z0m) C (ofT 16) (by decide) hl
 change z0y (A ++ (z1u n ++ C)) A.length (ofT 16) = (_, A.length + (z1u n).length, 0) at hop
 unfold z3W
 rw [hop]
 dsimp only
 rw [if_pos rfl, zai (x := n.flatMap z0m) n _ 0 [] (Nat.zero_le _) (by omega) hb h2 (by simpa using h1) rfl]
 rfl
theorem zfd {n : List (List AtT)} (h : z0F n = true) (hb : NmH n) (hl : (n.flatMap z0m).length ≤ 16777216) : z4x (z1u n) = (n, 0) := by
 have := zfc [] [] h hb hl
 simp only [List.nil_append, List.append_nil, List.length_nil, Nat.zero_add] at this
 unfold z4x
 rw [this]
 dsimp only
 rw [if_pos rfl, if_neg (by omega)]
def GnH (g : GnT) : Prop := WfB g.2.1 ∧ g.2.1.length ≤ 12000000 ∧ NmH g.2.2 ∧ (g.2.2.flatMap z0m).length ≤ 16000000
theorem zdB {k : Int} {b : List Int} (h : z3o k b = true) : 0 ≤ k ∧ k ≤ 8 ∧ k ≠ 4 := by
 unfold z3o at h
 split at h
 · omega
 · split at h
   · omega
   · split at h
     · omega
     · split at h
       · omega
       · cases h
theorem z3Z {g : GnT} (h : z0Q g = true) : 0 ≤ g.1 ∧ g.1 ≤ 8 ∧ (g.1 = 4 → g.2.1 = []) ∧ (g.1 ≠ 4 → g.2.2 = []) := by
 unfold z0Q at h
 split at h
 · rename_i h4
   simp only [Bool.and_eq_true, decide_eq_true_eq] at h
   exact ⟨by omega, by omega, fun _ => List.eq_nil_of_length_eq_zero h.1, fun h5 => absurd h4 h5⟩
 · rename_i h4
   simp only [Bool.and_eq_true, decide_eq_true_eq] at h
   have := zdB h.2
   exact ⟨this.1, this.2.1, fun h5 => absurd h5 h4, fun _ => List.eq_nil_of_length_eq_zero h.1⟩
theorem zbu {k : Int} (h0 : 0 ≤ k) (h8 : k ≤ 8) : z0z (2, k, z1G k) = true := by
 unfold z0z
 simp
 omega
def z4v (g : GnT) : List Int := if g.1 = 4 then z1u g.2.2 else g.2.1
theorem zfe {g : GnT} (hb : GnH g) : (z4v g).length ≤ 16000020 := by
 have := hb.2.1
 have := hb.2.2.2
 have := z1p (ofT 16) (g.2.2.flatMap z0m)
 unfold z4v z1u
 split <;> omega
theorem zff {g : GnT} (h : z0Q g = true) (hb : GnH g) : z6O g.1 (z4v g) = (g, 0) := by
 obtain ⟨h0, h8, h4, hn⟩ := z3Z h
 obtain ⟨k, b, n⟩ := g
 dsimp only at *
 unfold z6O z4v
 dsimp only
 by_cases hk : k = 4
 · subst hk
   obtain rfl := h4 rfl
   have hnm : z0F n = true := by
     unfold z0Q at h
     simpa using h
   have := zfd hnm hb.2.2.1 (by have := hb.2.2.2; dsimp only at this; omega)
   rw [if_pos rfl, if_pos rfl, this]
   dsimp only
   rw [if_pos rfl, if_pos h]
 · obtain rfl := hn hk
   rw [if_neg hk, if_neg hk, if_pos h]
theorem zfg (A C : List Int) {g : GnT} (h : z0Q g = true) (hb : GnH g) : z2G (A ++ (z0Y g ++ C)) A.length = (g, A.length + (z0Y g).length, 0) := by
 obtain ⟨h0, h8, h4, hn⟩ := z3Z h
 have hl := zfe hb
 have hr := zaB A (z4v g) C (2, g.1, z1G g.1) (zbu h0 h8) (by omega)
 change z09 (A ++ (z0Y g ++ C)) A.length = _ at hr
 have hB := zff h hb
 have hlen : (z0Y g).length = (tgL (2, g.1, z1G g.1)).length + (z10 (z4v g).length).length + (z4v g).length := by
   show (z0i _ (z4v g)).length = _
   simp [z0i, Nat.add_assoc]
 have hcut : ((A ++ (z0Y g ++ C)).drop (A.length + (tgL (2, g.1, z1G g.1)).length + (z10 (z4v g).length).length)).take ((z4v g).length : Int).toNat = z4v g := by
   show ((A ++ (z0i _ (z4v g) ++ C)).drop _).take _ = _
   rw [Nat.add_assoc, ← List.drop_drop, List.drop_left, z0i, List.append_assoc, ← List.length_append, List.drop_left, Int.toNat_natCast, List.take_left]
 unfold z2G
 rw [hr]
 dsimp only
 rw [if_pos rfl, if_neg (by simp; omega), if_neg (by simp only [List.length_append]; omega), hcut, hB]
 dsimp only
 rw [hlen, Int.toNat_natCast]
 simp only [Prod.mk.injEq, true_and, and_true]
 omega
theorem z9a {x : List Int} : ∀ (ys : List GnT) (f p : Nat) (acc : List GnT), p ≤ x.length → x.length - p < f → (∀ g ∈ ys, GnH g ∧ z0Q g = true) → acc.length + ys.length ≤ 10000 → x.drop p = ys.flatMap z0Y → z4g x f p acc = (acc ++ ys, x.length, 0)
 | [], 0, p, acc, _, hk, _, _, _ => by omega
 | [], f + 1, p, acc, hp, hk, _, _, hd => by
   have : x.length ≤ p := by simpa using hd
   rw [z4g, if_neg (by omega), List.append_nil, show p = x.length by omega]
 | y :: ys, 0, p, acc, _, hk, _, _, _ => by omega
 | y :: ys, f + 1, p, acc, hp, hk, hy, hl, hd => by
   have hsp : x = x.take p ++ (z0Y y ++ ys.flatMap z0Y) := by
     rw [← List.flatMap_cons, ← hd, List.take_append_drop]
   have hlp : (x.take p).length = p := by simp; omega
   have hx : z2G x p = (y, p + (z0Y y).length, 0) := by
     have := zfg (x.take p) (ys.flatMap z0Y) (hy y (by simp)).2 (hy y (by simp)).1
     rwa [← hsp, hlp] at this
   have hge : 0 < (z0Y y).length := z1L _ _
   have hll := congrArg List.length hd
   rw [List.flatMap_cons, List.length_drop, List.length_append] at hll
   simp only [List.length_cons] at hl
   rw [z4g, if_pos (by omega), if_neg (by omega), hx]
   dsimp only
   rw [if_pos rfl]
   have ih := z9a (x := x) ys f (p + (z0Y y).length) (acc ++ [y]) (by omega) (by omega) (fun e he => hy e (by simp [he])) (by simp; omega) (by rw [← List.drop_drop, hd, List.flatMap_cons, List.drop_left])
   rw [ih]
   simp
theorem zcw {l : List GnT} (h : z26 l = true) : 0 < l.length ∧ l.length ≤ 10000 ∧ ∀ g ∈ l, z0Q g = true := by
 unfold z26 at h
 simp only [Bool.and_eq_true, decide_eq_true_eq, List.all_eq_true] at h
 exact ⟨h.1.1, h.1.2, h.2⟩
theorem zdC {l : List GnT} (h : z26 l = true) (hb : ∀ g ∈ l, GnH g) : z3p (l.flatMap z0Y) = (l, (l.flatMap z0Y).length, 0) := by
 obtain ⟨h1, h2, h3⟩ := zcw h
 have hpos : ¬ (l.flatMap z0Y).length = 0 := by
   match l, h1 with
   | g :: l, _ =>
     have : 0 < (z0Y g).length := z1L _ _
     rw [List.flatMap_cons, List.length_append]
     omega
 unfold z3p
 rw [if_neg hpos, z9a (x := l.flatMap z0Y) l _ 0 [] (Nat.zero_le _) (by omega) (fun g hg => ⟨hb g hg, h3 g hg⟩) (by simpa using h2) rfl]
 rfl
end Go.Proofs.YtaagjnlkinojcaaGreat

namespace Go.Proofs.YtaagjnlkinojcaaGreat
set_option linter.unusedSimpArgs false
set_option linter.unusedVariables false
open Go.Sx
set_option maxRecDepth 10000
abbrev atD : AtT := ([], [])
abbrev z3h (r : List AtT) : Leaf := .recs 2 (r.map atL)
abbrev z2Q (r : List AtT) : Av := .c (.lf (z3h r))
abbrev nmL (n : List (List AtT)) : Leaf := .recs 1 (n.map fun r => [z3h r])
abbrev nmV (n : List (List AtT)) : Av := .c (.lf (nmL n))
theorem zaj : ∀ (r : List AtT), z1z r = true ↔ ∀ i, i + 1 < r.length → z0v (atW (r.getD i atD)) (atW (r.getD (i + 1) atD)) < 0
 | [] => by simp [z1z]
 | [a] => by simp [z1z]
 | a :: b :: l => by
   have ih := zaj (b :: l)
   rw [z1z, Bool.and_eq_true, decide_eq_true_eq, ih]
   constructor
   · rintro ⟨h1, h2⟩ i hi
     cases i with
     | zero => exact h1
     | succ i => exact h2 i (by simpa using hi)
   · intro h
     exact ⟨h 0 (by simp), fun i hi => h (i + 1) (by simpa using hi)⟩
theorem zak {α : Type} {l : List α} {i : Nat} {d : α} (h : i < l.length) : l.take (i + 1) = l.take i ++ [l.getD i d] := by
 rw [List.take_add_one, List.getD_eq_getElem?_getD, List.getElem?_eq_getElem h]
 rfl
def zcx (r : List AtT) (i : Nat) : Prop := ∀ j, j < i → z1h (r.getD j atD) = true ∧ (0 < j → z0v (atW (r.getD (j - 1) atD)) (atW (r.getD j atD)) < 0)
theorem z4B (r : List AtT) : z0B r = true ↔ (1 ≤ r.length ∧ r.length ≤ 16) ∧ zcx r r.length := by
 unfold z0B zcx
 simp only [Bool.and_eq_true, decide_eq_true_eq, List.all_eq_true, zaj]
 constructor
 · rintro ⟨⟨h1, h2⟩, h3⟩
   refine ⟨h1, fun j hj => ⟨?_, fun h0 => ?_⟩⟩
   · rw [List.getD_eq_getElem?_getD, List.getElem?_eq_getElem hj]
     exact h2 _ (List.getElem_mem hj)
   · have := h3 (j - 1) (by omega)
     rwa [show j - 1 + 1 = j by omega] at this
 · rintro ⟨h1, h2⟩
   refine ⟨⟨h1, fun a ha => ?_⟩, fun i hi => (h2 (i + 1) hi).2 (by omega)⟩
   obtain ⟨j, hj, rfl⟩ := List.mem_iff_getElem.1 ha
   have := (h2 j hj).1
   rwa [List.getD_eq_getElem?_getD, List.getElem?_eq_getElem hj] at this
theorem z74 {r : List AtT} (h : ∀ a ∈ r, AtB a) {i : Nat} (hi : i < r.length) : AtB (r.getD i atD) := by
 rw [List.getD_eq_getElem?_getD, List.getElem?_eq_getElem hi]
 exact h _ (List.getElem_mem hi)
set_option maxHeartbeats 8000000 in
theorem z7n (r : List AtT) (hb1 : ∀ a ∈ r, AtB a) (hl : r.length ≤ 16000000) : Ct Tryz.prog 178 [z2Q r] [] (.tup [z27 (if z0B r = true then r.map atW else []), lv (.bool (z0B r))]) [] [] := by
 have hml : (r.map atL).length = r.length := List.length_map ..
 by_cases h1 : r.length = 0
 · obtain rfl := List.eq_nil_of_length_eq_zero h1
   refine z00 Tryz.func178 rfl rfl rfl rfl rfl (fun E hn hb => ?_)
   repeat refine nx ?_
   exact rtU []
 by_cases h16 : 16 < r.length
 · have hS : z0B r = false := by
     rw [Bool.eq_false_iff]
     intro h
     have := ((z4B r).1 h).1
     omega
   rw [hS, if_neg (by simp)]
   refine z00 Tryz.func178 rfl rfl rfl rfl rfl (fun E hn hb => ?_)
   repeat refine nx ?_
   exact rtU []
 refine z00 Tryz.func178 rfl rfl rfl rfl rfl (fun E hn hb => ?_)
 repeat refine nx ?_
 refine z04 rfl (by simp) (fun hc => ?_) (fun hc => ?_)
 · exfalso
   rw [hml, show ((r.length : Int) == 0) = false by rw [beq_eq_false_iff_ne]; omega, show decide ((16 : Int) < (r.length : Int)) = false by rw [decide_eq_false_iff_not]; omega] at hc
   cases hc
 clear hc
 repeat refine nx ?_
 rw [hml]
 have hS0 := z4B r
 generalize z0B r = S at *
 refine z1a 4 900 1 (.recs 1 []) rfl rfl (.inr (.inr ⟨_, rfl⟩)) ?_
 refine z0d (St.le_of (l := [(4, .c (.own 900 1 0 (z1E ((r.take 0).map atW)).length)), (16, z2Q r), (17, lv (.int .i64 (r.length : Int))), (18, lv (.int .i64 ((0 : Nat) : Int)))]) (h := [(900, .row (.recs 1 (z1E ((r.take 0).map atW))))]) (by refine ⟨?_, ?_⟩ <;> (repeat' (first | exact trivial | exact rfl | refine ⟨?_, ?_⟩)) <;> first | exact rfl | (simp; done) | skip)) ?_
 refine z0l (ι := {i : Nat // i ≤ r.length ∧ zcx r i}) (fun i => St.of [(4, .c (.own 900 1 0 (z1E ((r.take i.1).map atW)).length)), (16, z2Q r), (17, lv (.int .i64 (r.length : Int))), (18, lv (.int .i64 (i.1 : Int)))] [(900, .row (.recs 1 (z1E ((r.take i.1).map atW))))]) (fun i => r.length - i.1) (fun i => ?_) ⟨0, Nat.zero_le _, fun j hj => by omega⟩
 obtain ⟨i, hi, hu⟩ := i
 dsimp only
 by_cases hi2 : i < r.length
 · have hq : r.getD (i : Int).toNat default = r.getD i atD := rfl
   have hb2 := z74 hb1 hi2
   have hw := zaH _ hb2
   have hwn := zfM _ hb2
   by_cases ha : z1h (r.getD i atD) = true
   · have hw := hw ha
     clear hwn
     by_cases h0 : i = 0
     · subst h0
       generalize hA : r.getD 0 atD = a at *
       have hne : (atW a).length ≠ 0 := by have := z1L (ofT 16) ((z16 a.1).1 ++ a.2); unfold atW; omega
       have hnx : (r.take 1).map atW = [atW a] := by rw [zak (d := atD) hi2, List.take_zero, List.nil_append, List.map_singleton]; exact congrArg (fun x => [atW x]) hA
       generalize atW a = X at *
       obtain ⟨o, v⟩ := a
       repeat (first | refine nx ?_ | rw [hq])
       refine z6E (neg := false) rfl rfl (by rw [hn]; rfl) Tryz.underlying28 rfl (by simp) (by simp [szD]) (fun b hb0 => ?_)
       simp only [z0c] at hb0
       cases b with
       | true => exact absurd (hb0 rfl) hne
       | false =>
         repeat refine nx ?_
         refine wgF (lv (.int .i64 0)) hn ?_
         repeat refine nx ?_
         refine z0a ⟨1, hi2, fun j hj => by obtain rfl : j = 0 := by omega
                                            rw [hA]; exact ⟨ha, fun h => absurd h (by omega)⟩⟩ (by dsimp only; omega) (St.le_of ⟨⟨?_, rfl, rfl, rfl⟩, ?_⟩)
         · rw [hnx]; rfl
         · rw [hnx]; rfl
     · have hcm := z5o (atW (r.getD (i - 1) atD)) (atW (r.getD i atD)) (by have := z4V (hu (i - 1) (by omega)).1; have := (z74 hb1 (show i - 1 < r.length by omega)).l; omega) (by have := z4V ha; have := hb2.l; omega)
       have hq2 : ((r.take i).map atW).getD (0 + ((i : Int) - 1).toNat) [] = atW (r.getD (i - 1) atD) := by
         rw [show 0 + ((i : Int) - 1).toNat = i - 1 by omega, List.getD_eq_getElem?_getD, List.getElem?_map, List.getElem?_take, if_pos (by omega), List.getD_eq_getElem?_getD, List.getElem?_eq_getElem (by omega : i - 1 < r.length)]
         rfl
       have hnx : (r.take (i + 1)).map atW = (r.take i).map atW ++ [atW (r.getD i atD)] := by rw [zak (d := atD) hi2, List.map_append]; rfl
       have hne : (atW (r.getD i atD)).length ≠ 0 := by have := z1L (ofT 16) ((z16 (r.getD i atD).1).1 ++ (r.getD i atD).2); unfold atW; omega
       generalize hA : r.getD i atD = a at *
       generalize hX : atW a = X at *
       generalize hY : atW (r.getD (i - 1) atD) = Y at *
       obtain ⟨o, v⟩ := a
       repeat (first | refine nx ?_ | rw [hq])
       refine z6E (neg := false) rfl rfl (by rw [hn]; rfl) Tryz.underlying28 rfl (by simp) (by simp [szD]) (fun b hb0 => ?_)
       simp only [z0c] at hb0
       cases b with
       | true => exact absurd (hb0 rfl) hne
       | false =>
         repeat (first | refine nx ?_ | rw [hq2])
         refine z04 rfl (by simp) (fun hc => ?_) (fun hc => ?_)
         · have hS : S = false := by
             rw [Bool.eq_false_iff]
             intro h
             have := ((hS0.1 h).2 i hi2).2 (by omega)
             rw [hY, hA, hX] at this
             simp at hc
             omega
           subst hS
           repeat refine nx ?_
           exact rtU []
         · repeat refine nx ?_
           refine z0a ⟨i + 1, hi2, fun j hj => by
             by_cases e : j = i
             · subst e
               rw [hA, hY, hX]
               simp at hc
               exact ⟨ha, fun _ => by omega⟩
             · exact hu j (by omega)⟩ (by dsimp only; omega) (St.le_of ⟨⟨?_, rfl, rfl, rfl⟩, ?_⟩)
           · rw [hnx]; simp; rfl
           · rw [hnx]; simp; rfl
   · have hwn := hwn (by simpa using ha)
     have hS : S = false := by
       rw [Bool.eq_false_iff]
       intro h
       exact ha ((hS0.1 h).2 i hi2).1
     subst hS
     clear hw ha hb2 hS0
     generalize r.getD i atD = a at *
     obtain ⟨o, v⟩ := a
     repeat (first | refine nx ?_ | rw [hq])
     refine wgF (lv (.int .i64 0)) hn ?_
     repeat refine nx ?_
     exact rtU []
 · obtain rfl : i = r.length := by omega
   have hS : S = true := hS0.2 ⟨⟨by omega, by omega⟩, hu⟩
   subst hS
   rw [List.take_length]
   repeat refine nx ?_
   refine z2C 2 ?_
   exact rt1 []
end Go.Proofs.YtaagjnlkinojcaaGreat

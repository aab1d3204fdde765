/-
  Rows within rows that came in; the law PointExpands on what came in. No condition.
-/
import Derived.Test.YtaagjnlkinojcaaGreatD8
import Derived.Test.YtaagjnlkinojcaaGreatK5
namespace Go.Sx
open Go
open Go.ChangeShapes Go.WideShapes Go.ChangeAt Go.RowKit Go.Joins Go.Deep
set_option linter.unusedVariables false
section
variable {H : Type} {enc : TypeId × Value → H} {P : Program} {w : World} {base : Nat} {spare : Nat → Bool} {held : Bool} {fuel : Nat}
def z5N (w : World) (cs : List Value) (ls : List Leaf) : Prop := cs.length = ls.length ∧ ∀ (j : Nat) (z : Leaf), ls[j]? = some z → ∃ u, cs[j]? = some u ∧ LfR (Was w) w z u
theorem z9z {α : Type} {t e : TypeId} {sz : Nat} {f : α → List Leaf} {Φ : α → Prop} {v : Value} {x : DataW H × List MemPlace} (ht : P.underlying t = some (.slice e)) (hc : P.cellsOf e = sz) (hsz : sz ≠ 0)
   (hel : ∀ n cs y, cs.length = sz → DataW.trod enc P w base spare held n e cs = some y → ∃ a, Φ a ∧ (f a).length = sz ∧ z5N w cs (f a)) (h : DataW.trod enc P w base spare held fuel t [v] = some x) :
   ∃ l : List α, l.length ≤ 9223372036854775807 ∧ (∀ a ∈ l, Φ a) ∧ LfR (Was w) w (.recs sz (l.map f)) v := by
 rcases DataW.trod_slice ht h with ⟨hcs, _⟩ | ⟨a, len, cap, elems, rest, n, _, hcs, _, hb, hl, hm, hlen, hel2, hsp, hns⟩
 · simp at hcs
   subst hcs
   exact ⟨[], by simp, fun a h => (by cases h), LfR.recs _ _ _ _ _ (fun _ _ => undef) rfl (Nat.le_refl _) (Nat.zero_le _) (fun r h => by cases h) (fun h => absurd rfl h) (fun i r j x h => by simp at h)⟩
 · simp at hcs
   subst hcs
   have each : ∀ i : _root_.Fin len, ∃ a' : α, Φ a' ∧ (f a').length = sz ∧ ∀ (j : Nat) (z : Leaf), (f a')[j]? = some z → ∃ u, w.cell? ((a.add (i.val * sz)).add j) = some u ∧ LfR (Was w) w z u := by
     intro i
     have h1 := hel2 i.val i.isLt
     rw [hc] at h1
     have h2 : elems[i.val]? = some elems[i.val] := by simp [hlen]
     rw [h2] at h1
     obtain ⟨cs, e1, e2⟩ := Option.bind_eq_some_iff.1 h1
     obtain ⟨q1, q2, q3⟩ := World.cells?_some e1
     obtain ⟨a', p1, p2, p3, p4⟩ := hel n cs _ q2 e2
     refine ⟨a', p1, p2, fun j z hz => ?_⟩
     obtain ⟨u, u1, u2⟩ := p4 j z hz
     have hj : j < sz := by
       have := (List.getElem?_eq_some_iff.1 hz).1
       omega
     refine ⟨u, ?_, u2⟩
     rw [q3 j hj]
     exact u1
   obtain ⟨g, hg⟩ := Classical.axiomOfChoice each
   have hm' : cap ≤ 9223372036854775807 := hm
   refine ⟨List.ofFn g, by simp; omega, fun a' ha => ?_, ?_⟩
   · obtain ⟨i, rfl⟩ := (List.mem_ofFn).1 ha
     exact (hg i).1
   · have hget : ∀ (i : Nat) (r : List Leaf), ((List.ofFn g).map f)[i]? = some r → ∃ hi : i < len, r = f (g ⟨i, hi⟩) := by
       intro i r hr
       rw [List.getElem?_map, Option.map_eq_some_iff] at hr
       obtain ⟨q, hq, rfl⟩ := hr
       rw [List.getElem?_ofFn] at hq
       split at hq
       · rename_i hi
         exact ⟨hi, by rw [← Option.some.inj hq]⟩
       · cases hq
     obtain ⟨b, o, sp⟩ := a
     have hone : 0 < len → sp = none ∧ b < w.heap.size := by
       intro h0
       obtain ⟨_, p2, p3⟩ := hg ⟨0, h0⟩
       obtain ⟨z, hz⟩ : ∃ z, (f (g ⟨0, h0⟩))[0]? = some z := ⟨(f (g ⟨0, h0⟩))[0]'(by omega), by simp⟩
       obtain ⟨u, u1, _⟩ := p3 0 z hz
       have := zbJ u1
       simp [Addr.add] at this
       exact ⟨this.2, this.1⟩
     refine LfR.recs _ _ _ _ _ (fun i j => (w.cell? ⟨b, o + i * sz + j, none⟩).getD undef) (by simp) hl hm (fun r hr => ?_) (fun hne => ?_) (fun i r j x hi hj => ?_)
     · obtain ⟨a', ha, rfl⟩ := List.mem_map.1 hr
       obtain ⟨i, rfl⟩ := (List.mem_ofFn).1 ha
       exact (hg i).2.1
     · have h0 : 0 < len := by
         rcases Nat.eq_zero_or_pos len with h | h
         · subst h; simp at hne
         · exact h
       obtain ⟨rfl, hb1⟩ := hone h0
       refine ⟨b, o, rfl, hb1, fun i r j x hi hj => ?_⟩
       obtain ⟨hi', rfl⟩ := hget i r hi
       obtain ⟨u, u1, _⟩ := (hg ⟨i, hi'⟩).2.2 j x hj
       rw [z0C, z0C] at u1
       rw [u1]; rfl
     · obtain ⟨hi', rfl⟩ := hget i r hi
       obtain ⟨rfl, hb1⟩ := hone (by omega)
       obtain ⟨u, u1, u2⟩ := (hg ⟨i, hi'⟩).2.2 j x hj
       rw [z0C, z0C] at u1
       rw [u1]; exact u2
theorem zfS {k : IntKind} {ty : TypeId} (ht : P.underlying ty = some (.int k)) : ∀ n c y, DataW.trod enc P w base spare held n ty [c] = some y → ∃ x : Int, (Lit.int k x).wf = true ∧ LfR (Was w) w (.v (.int k x)) c := by
 intro n c y h
 obtain ⟨a, e0, _, w0⟩ := DataW.trod_int ht h
 simp at e0
 subst e0
 exact ⟨_, w0, .v _ rfl⟩
theorem zej {ty : TypeId} (ht : P.underlying ty = some .bool) : ∀ n c y, DataW.trod enc P w base spare held n ty [c] = some y → ∃ x : Bool, True ∧ LfR (Was w) w (.v (.bool x)) c := by
 intro n c y h
 obtain ⟨b, e0, _⟩ := DataW.trod_bool ht h
 simp at e0
 subst e0
 exact ⟨_, trivial, .v _ rfl⟩
theorem z4G {ty e : TypeId} (ht : P.underlying ty = some (.slice e)) (he : P.underlying e = some (.int .u8)) (hc : P.cellsOf e = 1) : ∀ n c y, DataW.trod enc P w base spare held n ty [c] = some y → ∃ x : List Int, (x.length ≤ 9223372036854775807 ∧ ∀ n ∈ x, 0 ≤ n ∧ n < 256) ∧ LfR (Was w) w (.ints .u8 x) c := by
 intro n c y h
 obtain ⟨l, h1, h2, h3⟩ := zaK ht he hc h
 exact ⟨l, ⟨h1, fun n hn => znD (h2 n hn)⟩, h3⟩
theorem z6S {k : IntKind} {ty e : TypeId} (ht : P.underlying ty = some (.slice e)) (he : P.underlying e = some (.int k)) (hc : P.cellsOf e = 1) : ∀ n c y, DataW.trod enc P w base spare held n ty [c] = some y → ∃ x : List Int, (x.length ≤ 9223372036854775807 ∧ ∀ n ∈ x, (Lit.int k n).wf = true) ∧ LfR (Was w) w (.ints k x) c := by
 intro n c y h
 obtain ⟨l, h1, h2, h3⟩ := zaK ht he hc h
 exact ⟨l, ⟨h1, h2⟩, h3⟩
end

section
variable {H : Type} {enc : TypeId × Value → H} {P : Program} {w : World} {base : Nat} {spare : Nat → Bool} {held : Bool}
def z2f (enc : TypeId × Value → H) (P : Program) (w : World) (base : Nat) (spare : Nat → Bool) (held : Bool) {A : Type} (t : TypeId) (k : Nat) (f : A → List Leaf) (Φ : A → Prop) : Prop :=
 ∀ n cs y, cs.length = k → DataW.trod enc P w base spare held n t cs = some y → ∃ a, Φ a ∧ (f a).length = k ∧ z5N w cs (f a)
theorem z1Y {A : Type} {t : TypeId} {g : A → Leaf} {Φ : A → Prop} (h : ∀ n c y, DataW.trod enc P w base spare held n t [c] = some y → ∃ x, Φ x ∧ LfR (Was w) w (g x) c) : z2f enc P w base spare held t 1 (fun x => [g x]) Φ := by
 intro n cs y hcs hy
 match cs, hcs with
 | [c], _ =>
   obtain ⟨x, h1, h2⟩ := h n c y hy
   refine ⟨x, h1, rfl, rfl, fun j z hz => ?_⟩
   cases j with
   | zero => simp at hz; subst hz; exact ⟨c, rfl, h2⟩
   | succ j => simp at hz
theorem z6b {cs : List Value} {k0 k1 : Nat} {l0 l1 : List Leaf} (hk : cs.length = k0 + k1) (h0 : z5N w (cs.take k0) l0) (h1 : z5N w ((cs.drop k0).take k1) l1) : z5N w cs (l0 ++ l1) := by
 have e0 : l0.length = k0 := by rw [← h0.1]; simp; omega
 have e1 : l1.length = k1 := by rw [← h1.1]; simp; omega
 refine ⟨by simp; omega, fun j z hz => ?_⟩
 rcases Nat.lt_or_ge j k0 with h | h
 · rw [List.getElem?_append_left (by omega)] at hz
   obtain ⟨u, a, b⟩ := h0.2 j z hz
   rw [List.getElem?_take_of_lt h] at a
   exact ⟨u, a, b⟩
 · rw [List.getElem?_append_right (by omega), e0] at hz
   obtain ⟨u, a, b⟩ := h1.2 (j - k0) z hz
   have hj : j - k0 < k1 := by
     have := (List.getElem?_eq_some_iff.1 hz).1
     omega
   rw [List.getElem?_take_of_lt hj, List.getElem?_drop, show k0 + (j - k0) = j by omega] at a
   exact ⟨u, a, b⟩
theorem z6T {A B : Type} {t : TypeId} {f0 f1 : Field} {k0 k1 : Nat} {g0 : A → List Leaf} {g1 : B → List Leaf} {Φ0 : A → Prop} {Φ1 : B → Prop} (ht : P.underlying t = some (.struct #[f0, f1])) (ho : f0.offset = 0 ∧ f1.offset = k0) (hc0 : P.cellsOf f0.type = k0) (hc1 : P.cellsOf f1.type = k1)
   (h0 : z2f enc P w base spare held f0.type k0 g0 Φ0) (h1 : z2f enc P w base spare held f1.type k1 g1 Φ1) : z2f enc P w base spare held t (k0 + k1) (fun x : A × B => g0 x.1 ++ g1 x.2) (fun x => Φ0 x.1 ∧ Φ1 x.2) := by
 intro n cs y hcs hy
 obtain ⟨y0, y1, m, _, _, z0, z1⟩ := trod_struct2 ht hy
 rw [ho.1, hc0, List.drop_zero] at z0
 rw [ho.2, hc1] at z1
 obtain ⟨a, a1, a2, a3⟩ := h0 m _ _ (by simp; omega) z0
 obtain ⟨b, b1, b2, b3⟩ := h1 m _ _ (by simp; omega) z1
 exact ⟨(a, b), ⟨a1, b1⟩, by simp [a2, b2], z6b hcs a3 b3⟩
theorem z7w {A B C : Type} {t : TypeId} {f0 f1 f2 : Field} {k0 k1 k2 : Nat} {g0 : A → List Leaf} {g1 : B → List Leaf} {g2 : C → List Leaf} {Φ0 : A → Prop} {Φ1 : B → Prop} {Φ2 : C → Prop} (ht : P.underlying t = some (.struct #[f0, f1, f2])) (ho : f0.offset = 0 ∧ f1.offset = k0 ∧ f2.offset = k0 + k1) (hc0 : P.cellsOf f0.type = k0) (hc1 : P.cellsOf f1.type = k1) (hc2 : P.cellsOf f2.type = k2)
   (h0 : z2f enc P w base spare held f0.type k0 g0 Φ0) (h1 : z2f enc P w base spare held f1.type k1 g1 Φ1) (h2 : z2f enc P w base spare held f2.type k2 g2 Φ2) : z2f enc P w base spare held t (k0 + k1 + k2) (fun x : A × B × C => g0 x.1 ++ g1 x.2.1 ++ g2 x.2.2) (fun x => Φ0 x.1 ∧ Φ1 x.2.1 ∧ Φ2 x.2.2) := by
 intro n cs y hcs hy
 obtain ⟨y0, y1, y2, m, _, _, z0, z1, z2⟩ := trod_struct3 ht hy
 rw [ho.1, hc0, List.drop_zero] at z0
 rw [ho.2.1, hc1] at z1
 rw [ho.2.2, hc2] at z2
 obtain ⟨a, a1, a2, a3⟩ := h0 m _ _ (by simp; omega) z0
 obtain ⟨b, b1, b2, b3⟩ := h1 m _ _ (by simp; omega) z1
 obtain ⟨c, c1, c2, c3⟩ := h2 m _ _ (by simp; omega) z2
 refine ⟨(a, b, c), ⟨a1, b1, c1⟩, by simp [a2, b2, c2]; omega, z6b hcs (z6b (k0 := k0) (k1 := k1) (by simp; omega) ?_ ?_) c3⟩
 · rw [List.take_take, Nat.min_eq_left (by omega)]; exact a3
 · rw [List.drop_take, show k0 + k1 - k0 = k1 by omega, List.take_take, Nat.min_self]; exact b3
theorem zfT {A : Type} {t : TypeId} {fs : Array Field} {k : Nat} {f : A → List Leaf} {Φ : A → Prop} {v : Value} {d : DataW H} {p : List MemPlace} {r : Reach} {b0 : Nat} (ht : P.underlying t = some (.struct fs)) (hC : P.cellsOf t = k) (hR : z2f enc P w base spare held t k f Φ)
   (hv : Value.okWide P w r b0 t v) (h : DataW.Trod enc P w base spare held t v d p) : ∃ a, Φ a ∧ ∀ β, AvR β (Was w) w (.agg ((f a).map Cell.lf)) v := by
 obtain ⟨cs, rfl, hsz⟩ := okWide_struct ht hv
 obtain ⟨fuel, hf⟩ := h
 simp only [Value.cells] at hf
 obtain ⟨a, h1, h2, h3, h4⟩ := hR fuel cs.toList _ (by simpa [hC] using hsz) hf
 refine ⟨a, h1, fun β => .agg _ _ (by simpa using h3) fun i x u hx hu => ?_⟩
 rw [List.getElem?_map, Option.map_eq_some_iff] at hx
 obtain ⟨z, hz, rfl⟩ := hx
 obtain ⟨u', e1, e2⟩ := h4 i z hz
 rw [Array.getElem?_toList] at e1
 rw [e1] at hu
 cases hu
 exact .lf e2
theorem zd0 {A : Type} {t e : TypeId} {k : Nat} {f : A → List Leaf} {Φ : A → Prop} {v : Value} {d : DataW H} {p : List MemPlace} {r : Reach} {b0 : Nat} (ht : P.underlying t = some (.slice e)) (hc : P.cellsOf e = k) (hk : Nat.beq k 0 = false) (hR : z2f enc P w base spare held e k f Φ)
   (hv : Value.okWide P w r b0 t v) (h : DataW.Trod enc P w base spare held t v d p) : ∃ l : List A, l.length ≤ 9223372036854775807 ∧ (∀ a ∈ l, Φ a) ∧ ∀ β, AvR β (Was w) w (.c (.lf (.recs k (l.map f)))) v := by
 obtain ⟨a, n, c, rfl⟩ := okWide_slice ht hv
 obtain ⟨fuel, h⟩ := h
 simp only [Value.cells] at h
 obtain ⟨l, h1, h2, h3⟩ := z9z (f := f) (Φ := Φ) ht hc (by rintro rfl; simp at hk) (fun n cs y hcs hy => hR n cs y hcs hy) h
 exact ⟨l, h1, h2, fun β => .c (.lf h3)⟩
end
end Go.Sx

namespace Go.Sx
set_option linter.unusedSimpArgs false
set_option linter.unusedVariables false
open Go
open Go.ChangeShapes Go.WideShapes Go.ChangeAt Go.RowKit Go.Joins Go.Deep
set_option linter.unusedVariables false
theorem z3S {H : Type} {enc : TypeId × Value → H} {P : Program} {w : World} {base : Nat} {spare : Nat → Bool} {held : Bool} {A : Type} {t e : TypeId} {k : Nat} {f : A → List Leaf} {Φ : A → Prop} (ht : P.underlying t = some (.slice e)) (hc : P.cellsOf e = k) (hk : Nat.beq k 0 = false)
   (hR : z2f enc P w base spare held e k f Φ) : z2f enc P w base spare held t 1 (fun l : List A => [.recs k (l.map f)]) (fun l => l.length ≤ 9223372036854775807 ∧ ∀ a ∈ l, Φ a) :=
 z1Y fun n c y h => by
   obtain ⟨l, h1, h2, h3⟩ := z9z (f := f) (Φ := Φ) ht hc (by rintro rfl; simp at hk) (fun n cs y hcs hy => hR n cs y hcs hy) h
   exact ⟨l, ⟨h1, h2⟩, h3⟩
end Go.Sx
namespace Go.Proofs.YtaagjnlkinojcaaGreat
open Go Go.Sx
def AtX (a : AtT) : Prop := (a.1.length ≤ 9223372036854775807 ∧ ∀ n ∈ a.1, (Lit.int .i64 n).wf = true) ∧ (a.2.length ≤ 9223372036854775807 ∧ ∀ n ∈ a.2, 0 ≤ n ∧ n < 256)
def StX (r : List AtT) : Prop := r.length ≤ 9223372036854775807 ∧ ∀ a ∈ r, AtX a
def GnX (g : GnT) : Prop := (Lit.int .i64 g.1).wf = true ∧ (g.2.1.length ≤ 9223372036854775807 ∧ ∀ n ∈ g.2.1, 0 ≤ n ∧ n < 256) ∧ (g.2.2.length ≤ 9223372036854775807 ∧ ∀ r ∈ g.2.2, StX r)
theorem AtX.i {a : AtT} (h : AtX a) : AtI a := ⟨h.1.1, h.2.1, h.2.2⟩
theorem StX.i {r : List AtT} (h : StX r) : StI r := ⟨h.1, fun a ha => (h.2 a ha).i⟩
theorem GnX.i {g : GnT} (h : GnX g) : GnI g := ⟨h.2.1.1, h.2.1.2, ⟨h.2.2.1, fun r hr => (h.2.2.2 r hr).i⟩⟩
theorem zaV (b : Bool) (g : List GnT) (s : List AtT) (n : List (List AtT)) (hg : g.length ≤ 9223372036854775807) (hs : s.length ≤ 9223372036854775807) (hn : n.length ≤ 9223372036854775807) (wg : ∀ x ∈ g, GnX x) (ws : ∀ a ∈ s, AtX a) (wn : ∀ r ∈ n, StX r) :
   Ct Tryz.prog 5 [rwA b (g, s), nmV n] [] (lv (.bool true)) [] [] :=
 zbi b (g, s) n ⟨⟨hg, fun x hx => (wg x hx).i⟩, ⟨hs, fun a ha => (ws a ha).i⟩⟩ ⟨hn, fun r hr => (wn r hr).i⟩
end Go.Proofs.YtaagjnlkinojcaaGreat

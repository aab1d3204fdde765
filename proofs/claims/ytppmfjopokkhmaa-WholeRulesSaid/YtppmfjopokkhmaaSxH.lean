/-
  Rows as lists of cells; stores. No condition.
-/
import Derived.Test.YtppmfjopokkhmaaSxG
namespace Go.Sx
open Go
set_option linter.unusedVariables false

/-- The cells of a row's data. -/
def RC (F : Nat → Prop) (w : World) : Leaf → List Value → Prop
  | .ints k l, vs => vs = l.map (Value.int k)
  | .recs sz l, vs => vs.length = l.length * sz ∧ (∀ r, r ∈ l → r.length = sz) ∧ ∀ i r k x, l[i]? = some r → r[k]? = some x → ∃ v, vs[i * sz + k]? = some v ∧ LfR F w x v
  | _, _ => False

def lenD : Leaf → Nat
  | .ints _ l => l.length
  | .recs _ l => l.length
  | _ => 0
def szD : Leaf → Nat
  | .ints _ _ => 1
  | .recs sz _ => sz
  | _ => 0
def takeD (n : Nat) : Leaf → Leaf
  | .ints k l => .ints k (l.take n)
  | .recs sz l => .recs sz (l.take n)
  | x => x
def dropD (n : Nat) : Leaf → Leaf
  | .ints k l => .ints k (l.drop n)
  | .recs sz l => .recs sz (l.drop n)
  | x => x
def appD : Leaf → Leaf → Option Leaf
  | .ints k l, .ints k' l' => match decide (k = k') with | true => some (.ints k (l ++ l')) | false => none
  | .recs sz l, .recs sz' l' => match decide (sz = sz') with | true => some (.recs sz (l ++ l')) | false => none
  | _, _ => none

theorem RC.length {F : Nat → Prop} {w : World} {d : Leaf} {vs : List Value} (h : RC F w d vs) : vs.length = lenD d * szD d := by
  cases d with
  | ints k l => simp only [RC] at h; subst h; simp [lenD, szD]
  | recs sz l => exact h.1
  | v => exact h.elim
  | obj => exact h.elim

theorem idx_lt {i k n sz : Nat} (hi : i < n) (hk : k < sz) : i * sz + k < n * sz := by
  have : (i + 1) * sz ≤ n * sz := Nat.mul_le_mul_right sz hi
  rw [Nat.add_mul, Nat.one_mul] at this
  omega

theorem RC.one {F : Nat → Prop} {w : World} {d : Leaf} {vs : List Value} (h : RC F w d vs) : ∀ u, u ∈ vs → u.oneCell' = true := by
  intro u hu
  cases d with
  | ints k l =>
    simp only [RC] at h; subst h
    obtain ⟨_, _, rfl⟩ := List.mem_map.1 hu
    rfl
  | recs sz l =>
    obtain ⟨h1, h2, h3⟩ := h
    obtain ⟨p, hp, rfl⟩ := List.mem_iff_getElem.1 hu
    have hsz : 0 < sz := by
      rcases Nat.eq_zero_or_pos sz with h | h
      · subst h; simp at h1; subst h1; simp at hp
      · exact h
    have hi : p / sz < l.length := by rw [Nat.div_lt_iff_lt_mul hsz]; omega
    have hk : p % sz < sz := Nat.mod_lt _ hsz
    have hr := h2 l[p / sz] (List.getElem_mem hi)
    obtain ⟨v, hv, hl⟩ := h3 (p / sz) l[p / sz] (p % sz) l[p / sz][p % sz] (by simp [hi]) (by simp [hr, hk])
    rw [Nat.mul_comm, Nat.div_add_mod] at hv
    have : v = vs[p] := by
      rw [List.getElem?_eq_getElem hp] at hv
      exact (Option.some.inj hv).symm
    rw [← this]
    exact hl.one
  | v => exact h.elim
  | obj => exact h.elim

theorem RC.mono {F F' : Nat → Prop} {w w' : World} (hF : ∀ b, F b → F' b ∧ w'.heap[b]? = w.heap[b]?) {d : Leaf} {vs : List Value} (h : RC F w d vs) : RC F' w' d vs := by
  cases d with
  | ints k l => exact h
  | recs sz l => exact ⟨h.1, h.2.1, fun i r k x hi hk => let ⟨v, hv, hl⟩ := h.2.2 i r k x hi hk; ⟨v, hv, hl.mono hF⟩⟩
  | v => exact h.elim
  | obj => exact h.elim

theorem RC.app {F : Nat → Prop} {w : World} {d d' e : Leaf} {vs us : List Value} (h : RC F w d vs) (h' : RC F w d' us) (ha : appD d d' = some e) : RC F w e (vs ++ us) ∧ lenD e = lenD d + lenD d' ∧ szD e = szD d ∧ szD d' = szD d := by
  cases d <;> cases d' <;> simp only [appD] at ha <;> (try cases ha)
  · rename_i k l k' l'
    split at ha
    · rename_i hk
      simp only [decide_eq_true_eq] at hk
      subst hk
      simp only [Option.some.injEq] at ha
      subst ha
      simp only [RC] at h h'
      subst h; subst h'
      exact ⟨by simp [RC], by simp [lenD], rfl, rfl⟩
    · cases ha
  · rename_i sz l sz' l'
    split at ha
    · rename_i hk
      simp only [decide_eq_true_eq] at hk
      subst hk
      simp only [Option.some.injEq] at ha
      subst ha
      obtain ⟨a1, a2, a3⟩ := h
      obtain ⟨b1, b2, b3⟩ := h'
      refine ⟨⟨by simp [a1, b1, Nat.add_mul], fun r hr => ?_, fun i r k x hi hk => ?_⟩, by simp [lenD], rfl, rfl⟩
      · rcases List.mem_append.1 hr with h | h
        · exact a2 r h
        · exact b2 r h
      · rcases Nat.lt_or_ge i l.length with hlt | hge
        · rw [List.getElem?_append_left hlt] at hi
          obtain ⟨v, hv, hl⟩ := a3 i r k x hi hk
          have hlt' := (List.getElem?_eq_some_iff.1 hv).1
          exact ⟨v, by rw [List.getElem?_append_left hlt']; exact hv, hl⟩
        · rw [List.getElem?_append_right hge] at hi
          obtain ⟨v, hv, hl⟩ := b3 _ r k x hi hk
          refine ⟨v, ?_, hl⟩
          have e : i * sz = (i - l.length) * sz + l.length * sz := by rw [← Nat.add_mul]; congr 1; omega
          rw [List.getElem?_append_right (by rw [a1]; omega), a1]
          rw [show i * sz + k - l.length * sz = (i - l.length) * sz + k by omega]
          exact hv
    · cases ha

theorem RC.take {F : Nat → Prop} {w : World} {d : Leaf} {vs : List Value} (h : RC F w d vs) (n : Nat) : RC F w (takeD n d) (vs.take (n * szD d)) := by
  cases d with
  | ints k l => simp only [RC, takeD, szD] at h ⊢; subst h; simp [List.map_take]
  | recs sz l =>
    obtain ⟨h1, h2, h3⟩ := h
    refine ⟨?_, fun r hr => h2 r (List.mem_of_mem_take hr), fun i r k x hi hk => ?_⟩
    · simp only [szD, List.length_take, h1]
      rcases Nat.le_total n l.length with h | h
      · rw [Nat.min_eq_left h, Nat.min_eq_left (Nat.mul_le_mul_right _ h)]
      · rw [Nat.min_eq_right h, Nat.min_eq_right (Nat.mul_le_mul_right _ h)]
    · rw [List.getElem?_take] at hi
      split at hi
      · rename_i hlt
        obtain ⟨v, hv, hl⟩ := h3 i r k x hi hk
        have hr := h2 r (List.mem_of_getElem? hi)
        have hk' : k < sz := by rw [← hr]; exact (List.getElem?_eq_some_iff.1 hk).1
        refine ⟨v, ?_, hl⟩
        rw [List.getElem?_take, if_pos (show i * sz + k < n * szD (.recs sz l) from idx_lt hlt hk')]
        exact hv
      · cases hi
  | v => exact h.elim
  | obj => exact h.elim

theorem RC.drop {F : Nat → Prop} {w : World} {d : Leaf} {vs : List Value} (h : RC F w d vs) (n : Nat) : RC F w (dropD n d) (vs.drop (n * szD d)) := by
  cases d with
  | ints k l => simp only [RC, dropD, szD] at h ⊢; subst h; simp [List.map_drop]
  | recs sz l =>
    obtain ⟨h1, h2, h3⟩ := h
    refine ⟨?_, fun r hr => h2 r (List.mem_of_mem_drop hr), fun i r k x hi hk => ?_⟩
    · simp only [szD, List.length_drop, h1, Nat.sub_mul]
    · rw [List.getElem?_drop] at hi
      obtain ⟨v, hv, hl⟩ := h3 _ r k x hi hk
      refine ⟨v, ?_, hl⟩
      rw [List.getElem?_drop, ← hv]
      congr 1
      rw [Nat.add_mul]
      simp only [szD]; omega
  | v => exact h.elim
  | obj => exact h.elim

/-- A row's block: its cells begin with those of the data. -/
theorem blkR_row {β : Nat → Option Nat} {F : Nat → Prop} {w : World} {j g : Nat} {cur : Array Value} {d : Leaf} {vs : List Value} (hg : β j = some g) (hrow : Row w g cur) (h : RC F w d vs) (hp : ∀ (i : Nat) (v : Value), vs[i]? = some v → cur[i]? = some v) : BlkR β F w j (.row d) := by
  cases d with
  | ints k l =>
    simp only [RC] at h; subst h
    exact .inr ⟨g, cur, hg, hrow, fun i x hx => hp i _ (by simp [hx])⟩
  | recs sz l =>
    obtain ⟨h1, h2, h3⟩ := h
    exact ⟨h2, .inr ⟨g, cur, hg, hrow, fun i r k x hi hk => let ⟨v, hv, hl⟩ := h3 i r k x hi hk; ⟨v, hp _ _ hv, hl⟩⟩⟩
  | v => exact h.elim
  | obj => exact h.elim

theorem rowR_cells {β : Nat → Option Nat} {F : Nat → Prop} {w : World} {j g : Nat} {cur : Array Value} {d : Leaf} (hg : β j = some g) (hrow : Row w g cur) (h : BlkR β F w j (.row d)) : ∃ vs, RC F w d vs ∧ ∀ (i : Nat) (v : Value), vs[i]? = some v → cur[i]? = some v := by
  have hrr : ∀ cur', Row w g cur' → cur' = cur := by
    rintro cur' ⟨t, fr, h1, _⟩
    obtain ⟨t', fr', h1', _⟩ := hrow
    rw [h1] at h1'
    simp only [Option.some.injEq, Obj.cells.injEq] at h1'
    exact h1'.1
  cases d with
  | ints k l =>
    refine ⟨l.map (Value.int k), rfl, fun i v hv => ?_⟩
    rcases h with ⟨rfl, _⟩ | ⟨g', cur', hg', hr', hc⟩
    · simp at hv
    · rw [hg] at hg'
      obtain rfl := Option.some.inj hg'
      obtain rfl := hrr cur' hr'
      rw [List.getElem?_map, Option.map_eq_some_iff] at hv
      obtain ⟨x, hx, rfl⟩ := hv
      exact hc i x hx
  | recs sz l =>
    obtain ⟨h0, h⟩ := h
    rcases h with ⟨rfl, _⟩ | ⟨g', cur', hg', hr', hc⟩
    · exact ⟨[], ⟨by simp, fun r hr => by simp at hr, fun i r k x hi => by simp at hi⟩, fun i v hv => by simp at hv⟩
    · rw [hg] at hg'
      obtain rfl := Option.some.inj hg'
      obtain rfl := hrr cur' hr'
      refine ⟨(cur'.toList.take (l.length * sz)), ⟨?_, h0, fun i r k x hi hk => ?_⟩, fun i v hv => ?_⟩
      · rw [List.length_take, Nat.min_eq_left]
        rcases Nat.eq_zero_or_pos (l.length * sz) with h | h
        · omega
        · have hl : 0 < l.length := Nat.pos_of_mul_pos_right h
          have hs : 0 < sz := Nat.pos_of_mul_pos_left h
          have hr := h0 l[l.length - 1] (List.getElem_mem (by omega))
          obtain ⟨v, hv, _⟩ := hc (l.length - 1) l[l.length - 1] (sz - 1) (l[l.length - 1][sz - 1]'(by omega)) (by simp [show l.length - 1 < l.length by omega]) (by simp [show sz - 1 < l[l.length - 1].length by omega])
          have := (Array.getElem?_eq_some_iff.1 hv).1
          have e : l.length * sz = (l.length - 1) * sz + sz := by rw [← Nat.succ_mul]; congr 1; omega
          simp; omega
      · obtain ⟨v, hv, hl⟩ := hc i r k x hi hk
        have hi' := (List.getElem?_eq_some_iff.1 hi).1
        have hr := h0 r (List.mem_of_getElem? hi)
        have hk' : k < sz := by rw [← hr]; exact (List.getElem?_eq_some_iff.1 hk).1
        refine ⟨v, ?_, hl⟩
        rw [List.getElem?_take, if_pos (idx_lt hi' hk')]
        simpa using hv
      · rw [List.getElem?_take] at hv
        split at hv
        · simpa using hv
        · cases hv
  | v => exact h.elim
  | obj => exact h.elim

/-- The data of an immutable slice, as cells. -/
theorem LfR.cells {F : Nat → Prop} {w : World} {d : Leaf} {a : Option Addr} {n c : Nat} (h : LfR F w d (.slice a n c)) (hd : szD d ≠ 0) : n = lenD d ∧ n ≤ c ∧ c ≤ maxLen ∧ ∃ vs, RC F w d vs ∧ (vs ≠ [] → ∃ b o, a = some ⟨b, o, none⟩ ∧ F b ∧ ∀ (i : Nat) (v : Value), vs[i]? = some v → w.cell? ⟨b, o + i, none⟩ = some v) := by
  cases h with
  | v x h => simp [szD] at hd
  | ints k l a n c hn hc hm hh =>
    refine ⟨hn, hc, hm, l.map (Value.int k), rfl, fun hne => ?_⟩
    obtain ⟨b, o, h1, h2, h3⟩ := hh (by simpa using hne)
    refine ⟨b, o, h1, h2, fun i v hv => ?_⟩
    rw [List.getElem?_map, Option.map_eq_some_iff] at hv
    obtain ⟨x, hx, rfl⟩ := hv
    exact h3 i x hx
  | recs sz l a n c vs hn hc hm hs hh hv =>
    have hsz : 0 < sz := Nat.pos_of_ne_zero hd
    refine ⟨hn, hc, hm, (List.range (l.length * sz)).map (fun p => vs (p / sz) (p % sz)), ⟨by simp, hs, fun i r k x hi hk => ?_⟩, fun hne => ?_⟩
    · have hi' := (List.getElem?_eq_some_iff.1 hi).1
      have hr := hs r (List.mem_of_getElem? hi)
      have hk' : k < sz := by rw [← hr]; exact (List.getElem?_eq_some_iff.1 hk).1
      refine ⟨vs i k, ?_, hv i r k x hi hk⟩
      rw [List.getElem?_map, List.getElem?_range (idx_lt hi' hk')]
      simp only [Option.map_some, Option.some.injEq]
      rw [Nat.mul_comm, Nat.mul_add_div hsz, Nat.div_eq_of_lt hk', Nat.mul_add_mod, Nat.mod_eq_of_lt hk', Nat.add_zero]
    · obtain ⟨b, o, h1, h2, h3⟩ := hh (by intro h; subst h; simp at hne)
      refine ⟨b, o, h1, h2, fun p v hp => ?_⟩
      rw [List.getElem?_map, Option.map_eq_some_iff] at hp
      obtain ⟨q, hq, rfl⟩ := hp
      obtain ⟨hlt, rfl⟩ : p < l.length * sz ∧ p = q := by
        have := List.getElem?_eq_some_iff.1 hq
        obtain ⟨h, h'⟩ := this
        simp at h h'
        exact ⟨h, h'⟩
      have hi' : p / sz < l.length := by rw [Nat.div_lt_iff_lt_mul hsz]; omega
      have hk' : p % sz < sz := Nat.mod_lt _ hsz
      have hr := hs l[p / sz] (List.getElem_mem hi')
      have := h3 (p / sz) l[p / sz] (p % sz) (l[p / sz][p % sz]'(by omega)) (by simp [hi']) (by simp [hr, hk'])
      rw [← this]
      congr 2
      have := Nat.div_add_mod p sz
      rw [Nat.mul_comm] at this
      omega

end Go.Sx

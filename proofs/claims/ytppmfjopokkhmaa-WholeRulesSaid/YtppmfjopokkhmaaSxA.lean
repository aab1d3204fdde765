/-
  Abstract states for proofs over Code.wp: immutable data as pure trees, blocks of the call's own by literal keys. No condition.
-/
import Derived.WalkKit
namespace Go.Sx
open Go

/-- Immutable data of one cell. -/
inductive Leaf where
  | v (x : Value)
  | ints (k : IntKind) (l : List Int)
  | recs (sz : Nat) (l : List (List Leaf))
  | obj (cs : List Leaf)

/-- What one cell or temporary may hold: data, or a way into a block of the call's own. -/
inductive Cell where
  | lf (x : Leaf)
  | un
  | own (j sz off len : Nat)
  | ptr (j off : Nat)
  | pel (j sz i k : Nat)
  | fn (f : Fn) (first cap : List Cell)

inductive Av where
  | c (x : Cell)
  | agg (xs : List Cell)
  | ai (k : IntKind) (l : List Int)
  | tup (xs : List Av)
  | cnd (g : Bool) (x : Av)

inductive Blk where
  | gone
  | cells (cs : List Cell)
  | row (d : Leaf)

/-- Leaf data, read in a world through blocks of F. -/
inductive LfR (F : Nat → Prop) (w : World) : Leaf → Value → Prop where
  | v (x : Value) (h : x.oneCell' = true) : LfR F w (.v x) x
  | ints (k : IntKind) (l : List Int) (a : Option Addr) (n c : Nat) (hn : n = l.length) (hc : n ≤ c) (hm : c ≤ maxLen)
      (h : l ≠ [] → ∃ b o, a = some ⟨b, o, none⟩ ∧ F b ∧ ∀ i x, l[i]? = some x → w.cell? ⟨b, o + i, none⟩ = some (.int k x)) : LfR F w (.ints k l) (.slice a n c)
  | recs (sz : Nat) (l : List (List Leaf)) (a : Option Addr) (n c : Nat) (vs : Nat → Nat → Value) (hn : n = l.length) (hc : n ≤ c) (hm : c ≤ maxLen)
      (hs : ∀ r, r ∈ l → r.length = sz)
      (h : l ≠ [] → ∃ b o, a = some ⟨b, o, none⟩ ∧ F b ∧ ∀ i r j x, l[i]? = some r → r[j]? = some x → w.cell? ⟨b, o + i * sz + j, none⟩ = some (vs i j))
      (hv : ∀ i r j x, l[i]? = some r → r[j]? = some x → LfR F w x (vs i j)) : LfR F w (.recs sz l) (.slice a n c)
  | obj (cs : List Leaf) (b o : Nat) (vs : Nat → Value) (hF : F b) (h : ∀ j x, cs[j]? = some x → w.cell? ⟨b, o + j, none⟩ = some (vs j))
      (hv : ∀ j x, cs[j]? = some x → LfR F w x (vs j)) : LfR F w (.obj cs) (.pointer (some ⟨b, o, none⟩))

theorem LfR.mono {F F' : Nat → Prop} {w w' : World} (hF : ∀ b, F b → F' b ∧ w'.heap[b]? = w.heap[b]?) {x : Leaf} {v : Value} (h : LfR F w x v) : LfR F' w' x v := by
  induction h with
  | v x h => exact .v x h
  | ints k l a n c hn hc hm h =>
    refine .ints k l a n c hn hc hm fun hne => ?_
    obtain ⟨b, o, rfl, hb, hx⟩ := h hne
    exact ⟨b, o, rfl, (hF b hb).1, fun i x hi => (World.cell?_of_block (hF b hb).2).trans (hx i x hi)⟩
  | recs sz l a n c vs hn hc hm hs h hv ih =>
    refine .recs sz l a n c vs hn hc hm hs (fun hne => ?_) ih
    obtain ⟨b, o, rfl, hb, hx⟩ := h hne
    exact ⟨b, o, rfl, (hF b hb).1, fun i r j x hi hj => (World.cell?_of_block (hF b hb).2).trans (hx i r j x hi hj)⟩
  | obj cs b o vs hb h hv ih =>
    exact .obj cs b o vs (hF b hb).1 (fun j x hj => (World.cell?_of_block (hF b hb).2).trans (h j x hj)) ih

theorem LfR.one {F : Nat → Prop} {w : World} {x : Leaf} {v : Value} (h : LfR F w x v) : v.oneCell' = true := by
  cases h with
  | v x h => exact h
  | _ => rfl

/-- Block g is a row of the cells cur, none of them shared with a string. -/
def Row (w : World) (g : Nat) (cur : Array Value) : Prop := ∃ t fr, w.heap[g]? = some (.cells cur t fr) ∧ (fr.2 = 0 ∨ cur.size ≤ fr.1)
/-- Block g is a row of at least n cells. -/
def CapOk (w : World) (g n : Nat) : Prop := ∃ cur, Row w g cur ∧ n ≤ cur.size

inductive CellR (β : Nat → Option Nat) (F : Nat → Prop) (w : World) : Cell → Value → Prop where
  | lf {x : Leaf} {v : Value} (h : LfR F w x v) : CellR β F w (.lf x) v
  | un {v : Value} (h : v.oneCell' = true) : CellR β F w .un v
  | own (j sz off len : Nat) (a : Option Addr) (c : Nat) (hc : len ≤ c) (hm : c ≤ maxLen)
      (h : c = 0 ∨ ∃ g, β j = some g ∧ a = some ⟨g, off, none⟩ ∧ CapOk w g (off + c * sz)) : CellR β F w (.own j sz off len) (.slice a len c)
  | ptr (j off g : Nat) (h : β j = some g) : CellR β F w (.ptr j off) (.pointer (some ⟨g, off, none⟩))
  | pel (j sz i k g : Nat) (h : β j = some g) : CellR β F w (.pel j sz i k) (.pointer (some ⟨g, i * sz + k, none⟩))
  | fn (f : Fn) (first cap : List Cell) (fv cv : Array Value) (h1 : fv.size = first.length) (h2 : cv.size = cap.length)
      (h3 : ∀ (i : Nat) (x : Cell) (v : Value), first[i]? = some x → fv[i]? = some v → CellR β F w x v) (h4 : ∀ (i : Nat) (x : Cell) (v : Value), cap[i]? = some x → cv[i]? = some v → CellR β F w x v) :
      CellR β F w (.fn f first cap) (.func f fv cv)

theorem CellR.one {β : Nat → Option Nat} {F : Nat → Prop} {w : World} {x : Cell} {v : Value} (h : CellR β F w x v) : v.oneCell' = true := by
  cases h with
  | lf h => exact h.one
  | un h => exact h
  | _ => rfl

inductive AvR (β : Nat → Option Nat) (F : Nat → Prop) (w : World) : Av → Value → Prop where
  | c {x : Cell} {v : Value} (h : CellR β F w x v) : AvR β F w (.c x) v
  | any (v : Value) : AvR β F w (.c .un) v
  | agg (xs : List Cell) (cs : Array Value) (h1 : cs.size = xs.length) (h : ∀ (i : Nat) (x : Cell) (v : Value), xs[i]? = some x → cs[i]? = some v → CellR β F w x v) : AvR β F w (.agg xs) (.agg cs)
  | ai (k : IntKind) (l : List Int) : AvR β F w (.ai k l) (.agg (l.map (Value.int k)).toArray)
  | tup (xs : List Av) (cs : Array Value) (h1 : cs.size = xs.length) (h : ∀ (i : Nat) (x : Av) (v : Value), xs[i]? = some x → cs[i]? = some v → AvR β F w x v) : AvR β F w (.tup xs) (.tuple cs)
  | cnd (g : Bool) (x : Av) (v : Value) (h : g = true → AvR β F w x v) (h0 : g = false → v = undef) : AvR β F w (.cnd g x) v

theorem CellR.mono {β β' : Nat → Option Nat} {F F' : Nat → Prop} {w w' : World} (hβ : ∀ j g, β j = some g → β' j = some g) (hF : ∀ b, F b → F' b ∧ w'.heap[b]? = w.heap[b]?)
    (hC : ∀ g n, CapOk w g n → CapOk w' g n) {x : Cell} {v : Value} (h : CellR β F w x v) : CellR β' F' w' x v := by
  induction h with
  | lf h => exact .lf (h.mono hF)
  | un h => exact .un h
  | own j sz off len a c hc hm h =>
    refine .own j sz off len a c hc hm ?_
    rcases h with h | ⟨g, h1, h2, h3⟩
    · exact .inl h
    · exact .inr ⟨g, hβ j g h1, h2, hC _ _ h3⟩
  | ptr j off g h => exact .ptr j off g (hβ j g h)
  | pel j sz i k g h => exact .pel j sz i k g (hβ j g h)
  | fn f first cap fv cv h1 h2 h3 h4 ih3 ih4 => exact .fn f first cap fv cv h1 h2 ih3 ih4

theorem AvR.mono {β β' : Nat → Option Nat} {F F' : Nat → Prop} {w w' : World} (hβ : ∀ j g, β j = some g → β' j = some g) (hF : ∀ b, F b → F' b ∧ w'.heap[b]? = w.heap[b]?)
    (hC : ∀ g n, CapOk w g n → CapOk w' g n) {x : Av} {v : Value} (h : AvR β F w x v) : AvR β' F' w' x v := by
  induction h with
  | c h => exact .c (h.mono hβ hF hC)
  | any v => exact .any v
  | agg xs cs h1 h => exact .agg xs cs h1 fun i x v hx hv => (h i x v hx hv).mono hβ hF hC
  | ai k l => exact .ai k l
  | tup xs cs h1 h ih => exact .tup xs cs h1 ih
  | cnd g x v h h0 ih => exact .cnd g x v ih h0

/-- What block j of the call's own holds. -/
def BlkR (β : Nat → Option Nat) (F : Nat → Prop) (w : World) (j : Nat) : Blk → Prop
  | .gone => True
  | .cells cs => ∃ g cur, β j = some g ∧ Row w g cur ∧ cur.size = cs.length ∧ ∀ (i : Nat) (x : Cell) (v : Value), cs[i]? = some x → cur[i]? = some v → CellR β F w x v
  | .row (.ints k l) => (l = [] ∧ ∀ g, β j = some g → CapOk w g 0) ∨ ∃ g cur, β j = some g ∧ Row w g cur ∧ ∀ (i : Nat) (x : Int), l[i]? = some x → cur[i]? = some (Value.int k x)
  | .row (.recs sz l) => (∀ r, r ∈ l → r.length = sz) ∧ ((l = [] ∧ ∀ g, β j = some g → CapOk w g 0) ∨ ∃ g cur, β j = some g ∧ Row w g cur ∧ ∀ i r k x, l[i]? = some r → r[k]? = some x → ∃ v, cur[i * sz + k]? = some v ∧ LfR F w x v)
  | .row _ => False

structure St where
  tm : Nat → Av
  hp : Nat → Blk

/-- All memory but the blocks of M is as it was. -/
structure Keep (w0 : World) (M : Nat → Prop) (w : World) : Prop where
  os : w.os = w0.os
  tape : w.tape = w0.tape
  output : w.output = w0.output
  size : w0.heap.size ≤ w.heap.size
  block : ∀ k, k < w0.heap.size → ¬ M k → w.heap[k]? = w0.heap[k]?
  cap : ∀ g n, CapOk w0 g n → CapOk w g n

theorem Keep.refl (w : World) (M : Nat → Prop) : Keep w M w := ⟨rfl, rfl, rfl, Nat.le_refl _, fun _ _ _ => rfl, fun _ _ h => h⟩

theorem Keep.trans {w0 w1 w2 : World} {M M' M'' : Nat → Prop} (h : Keep w0 M w1) (k : Keep w1 M' w2) (h1 : ∀ b, M b → M'' b) (h2 : ∀ b, b < w0.heap.size → M' b → M'' b) : Keep w0 M'' w2 :=
  ⟨k.os.trans h.os, k.tape.trans h.tape, k.output.trans h.output, Nat.le_trans h.size k.size,
   fun b hb hn => (k.block b (Nat.lt_of_lt_of_le hb h.size) (fun hm => hn (h2 b hb hm))).trans (h.block b hb (fun hm => hn (h1 b hm))), fun g n hc => k.cap g n (h.cap g n hc)⟩

theorem Keep.below {w0 w : World} (h : Keep w0 (fun _ => False) w) : RowKit.Below w0.heap.size w0 w :=
  ⟨h.os, h.tape, h.output, h.size, fun k hk => h.block k hk (fun h => h)⟩

/-- What stands fixed during a call: the world at its beginning, the blocks that it may write, the blocks that its data lie in, the number of temporaries. -/
structure Env where
  w0 : World
  M : Nat → Prop
  F0 : Nat → Prop
  n : Nat
  nb : Nat
  β0 : Nat → Option Nat
  hM : ∀ g, M g → ∃ i, i < nb ∧ β0 i = some g

structure SRb (E : Env) (β : Nat → Option Nat) (F : Nat → Prop) (σ : St) (a : Act) (w : World) : Prop where
  tm : ∀ i, AvR β F w (σ.tm i) (a.tmps.getD i undef)
  sz : a.tmps.size = E.n
  df : a.defers = []
  hp : ∀ j, BlkR β F w j (σ.hp j)
  inj : ∀ i j g, σ.hp i ≠ .gone → σ.hp j ≠ .gone → β i = some g → β j = some g → i = j
  own : ∀ j g, σ.hp j ≠ .gone → β j = some g → g < w.heap.size ∧ (E.w0.heap.size ≤ g ∨ E.M g) ∧ ¬ F g
  lt : ∀ j g, β j = some g → g < w.heap.size
  fr : ∀ b, F b → b < w.heap.size ∧ (E.F0 b ∨ E.w0.heap.size ≤ b)
  keep : Keep E.w0 E.M w
  bb : ∀ i, i < E.nb → β i = E.β0 i
  nbl : E.nb ≤ 64

def SR (E : Env) (σ : St) (a : Act) (w : World) : Prop := ∃ β F, SRb E β F σ a w

def St.set (σ : St) (d : Nat) (x : Av) : St := ⟨fun i => if i = d then x else σ.tm i, σ.hp⟩
def St.seth (σ : St) (j : Nat) (b : Blk) : St := ⟨σ.tm, fun i => if i = j then b else σ.hp i⟩
def St.put (σ : St) (d : Option Nat) (x : Av) : St := match d with | some d => σ.set d x | none => σ

end Go.Sx

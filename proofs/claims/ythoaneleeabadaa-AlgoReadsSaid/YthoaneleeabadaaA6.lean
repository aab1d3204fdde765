/-
  Bit strings: those of contents, and the next one at a cursor. The conditions: rows of bytes that a machine can hold.
-/
import Derived.Test.YthoaneleeabadaaB3
import Derived.Test.YthoaneleeabadaaC8
import Derived.Test.YthoaneleeabadaaD8
import Derived.Test.YthoaneleeabadaaSxX
import Derived.Test.YthoaneleeabadaaW9
import Derived.Test.YthoaneleeabadaaSxP
import Derived.Test.YthoaneleeabadaaC12
import Derived.Test.YthoaneleeabadaaSxQ
namespace Go.Proofs.Ythoaneleeabadaa
set_option linter.unusedSimpArgs false
set_option linter.unusedVariables false
open Go.Sx

set_option maxRecDepth 10000

/-- All wholes up to the end: n steps at most; what they are, what is wrong. -/
def wholesA (l : List Int) : Nat → Nat → List (List Int) → List (List Int) × Int
  | 0, _, acc => (acc, 0)
  | n + 1, p, acc => if l.length ≤ p then (acc, 0) else if ¬ (oneP l p).2.2.2.1 = 0 then ([], (oneP l p).2.2.2.1) else wholesA l n (oneP l p).2.2.2.2 (acc ++ [(oneP l p).1])
def wholesP (l : List Int) (p : Nat) : List (List Int) × Int := wholesA l (l.length + 1) p []
abbrev recB (rs : List (List Int)) : List (List Leaf) := rs.map fun b => [.ints .u8 b]
theorem readP_adv (b : List Int) (p : Nat) (h : (readP b p).2.2 = 0) : p < (readP b p).2.1 := by
  unfold readP keepP at h ⊢
  split at h
  · rename_i h0
    rw [if_pos h0]
    unfold rawF at h h0 ⊢
    split at h0
    · rename_i ht
      rw [if_pos ht] at h ⊢
      dsimp only at h0 ⊢
      have h1 : p < (tagP b p).2.1 := by
        unfold tagP keepP at ht ⊢
        split at ht
        · rename_i h2
          rw [if_pos h2]
          unfold rawT at h2 ⊢
          split
          · rename_i h3
            rw [if_pos h3] at h2
            split
            · have := (numP_le b 3 (p + 1) 0 (by omega)).1
              dsimp only
              omega
            · dsimp only; omega
          · rename_i h3
            rw [if_neg h3] at h2
            simp at h2
        · rename_i h2
          exact absurd ht h2
      have h2 : (tagP b p).2.1 ≤ (lenP b (tagP b p).2.1).2.1 := by
        by_cases hb : p < b.length
        · exact (lenP_le b _ (tagP_le b p (by omega)).2).1
        · unfold tagP keepP rawT at ht
          rw [if_neg hb] at ht
          simp at ht
      omega
    · rename_i ht
      exact absurd h0 ht
  · rename_i h0
    exact absurd h h0
theorem one_fwd (l : List Int) (p : Nat) (hp : p < l.length) (hw : WfB l) (h : (oneP l p).2.2.2.1 = 0) : p < (oneP l p).2.2.2.2 ∧ (oneP l p).2.2.2.2 ≤ l.length ∧ (oneP l p).1 = (l.drop p).take ((oneP l p).2.2.2.2 - p) := by
  have hle := readP_le l p (by omega)
  have hpos := readP_pos l p hw
  have hadv := readP_adv l p
  unfold oneP at *
  split at h
  · rename_i h'; exact absurd h h'
  · rename_i h1
    split at h
    · simp at h
    · rename_i h2
      rw [if_neg h1, if_neg h2]
      dsimp only
      have := hadv (by simpa using h1)
      refine ⟨by omega, by omega, ?_⟩
      congr 1
      omega
theorem wholesA_step (l : List Int) (n p : Nat) (acc : List (List Int)) (hp : p < l.length) (he : (oneP l p).2.2.2.1 = 0) : wholesA l (n + 1) p acc = wholesA l n (oneP l p).2.2.2.2 (acc ++ [(oneP l p).1]) := by
  rw [wholesA, if_neg (by omega), if_neg (by simpa using he)]
set_option maxHeartbeats 4000000 in
theorem wholes_ok (l : List Int) (p : Nat) (hp : p ≤ l.length) (hl : l.length ≤ 100000) (hw : WfB l) :
    Ct Try.prog 28 [.c (.ptr 0 0)] [curB l p] (.tup [.c (.lf (.recs 1 (recB (wholesP l p).1))), lv (.int .i64 (wholesP l p).2)]) [curB l (if (wholesP l p).2 = 0 then l.length else p)] [] := by
  have hat := at_ok l p
  refine Ct_intro Try.func28 rfl rfl rfl rfl rfl (fun E hn hb => ?_)
  repeat refine nx ?_
  refine W_own_nil 5 900 1 (.recs 1 []) rfl rfl (.inr (.inr ⟨_, rfl⟩)) ?_
  refine W_weaken (St.le_of (l := [(0, .c (.ptr 0 0)), (4, lv (.int .i64 (p : Int))), (5, .c (.own 900 1 0 (recB []).length))]) (h := [(0, curB l p), (900, .row (.recs 1 (recB [])))]) (by refine ⟨?_, ?_⟩ <;> (repeat' (first | exact trivial | exact rfl | refine ⟨?_, ?_⟩)) <;> first | exact rfl | (simp; done) | skip)) ?_
  refine W_loop (ι := {x : Nat × Nat × List (List Int) // p ≤ x.2.1 ∧ x.2.1 ≤ l.length ∧ l.length - x.2.1 < x.1 ∧ x.2.2.length ≤ x.2.1 ∧ wholesA l x.1 x.2.1 x.2.2 = wholesP l p}) (fun i => St.of [(0, .c (.ptr 0 0)), (4, lv (.int .i64 (p : Int))), (5, .c (.own 900 1 0 (recB i.1.2.2).length))] [(0, curB l i.1.2.1), (900, .row (.recs 1 (recB i.1.2.2)))]) (fun i => l.length - i.1.2.1) (fun i => ?_) ⟨(l.length + 1, p, []), Nat.le_refl _, hp, by dsimp only; omega, Nat.zero_le _, rfl⟩
  obtain ⟨⟨n, q, acc⟩, h0, h1, h2, h3, h4⟩ := i
  change p ≤ q at h0
  change q ≤ l.length at h1
  change l.length - q < n at h2
  change acc.length ≤ q at h3
  change wholesA l n q acc = wholesP l p at h4
  dsimp only
  have hlf := left_ok l q h1 (by omega)
  obtain ⟨n, rfl⟩ : ∃ m, n = m + 1 := ⟨n - 1, by omega⟩
  by_cases hq : q < l.length
  · have ho := one_ok l q h1 (by omega) hw
    have hf := one_fwd l q hq hw
    have hle := one_le l q h1 hw
    have hst := wholesA_step l n q acc hq
    have her : ¬ (oneP l q).2.2.2.1 = 0 → wholesA l (n + 1) q acc = ([], (oneP l q).2.2.2.1) := fun h => by rw [wholesA, if_neg (by omega), if_pos h]
    generalize oneP l q = O at *
    obtain ⟨a, ⟨t1, t2, t3⟩, c, e, r⟩ := O
    dsimp only at *
    by_cases he : e = 0
    · subst he
      have hf := hf rfl
      have hrec : recB (acc ++ [a]) = recB acc ++ [[.ints .u8 a]] := by simp [recB]
      rw [hst rfl] at h4
      repeat refine nx ?_
      refine N_round ⟨(n, r, acc ++ [a]), by dsimp only; omega, by dsimp only; omega, by dsimp only; omega, by dsimp only; simp; omega, h4⟩ (by dsimp only; omega) (St.le_of ⟨⟨rfl, rfl, ?_⟩, ⟨rfl, ?_⟩⟩)
      · dsimp only; rw [hrec]; rfl
      · dsimp only; rw [hrec]; rfl
    · have her := her he
      rw [h4] at her
      rw [her]
      have hbk := back_ok l r p (by omega) (by omega)
      dsimp only
      rw [if_neg he]
      repeat refine nx ?_
      exact rtU []
  · have hw0 : wholesP l p = (acc, 0) := by rw [← h4, wholesA, if_pos (by omega)]
    rw [hw0]
    obtain rfl : q = l.length := by omega
    dsimp only
    rw [if_pos rfl]
    repeat refine nx ?_
    refine frzN 2 ?_
    exact rtU []
end Go.Proofs.Ythoaneleeabadaa

namespace Go.Proofs.Ythoaneleeabadaa
set_option linter.unusedSimpArgs false
set_option linter.unusedVariables false
open Go.Sx

set_option maxRecDepth 10000

/-- The first place where two rows part. -/
def partL : List Int → List Int → Nat
  | x :: a, y :: b => if x = y then partL a b + 1 else 0
  | _, _ => 0
theorem part_step : ∀ (a b : List Int) (i : Nat), (∀ k, k < i → a.getD k 0 = b.getD k 0) → i < a.length → i < b.length → a.getD i 0 ≠ b.getD i 0 → partL a b = i
  | [], b, i, _, h, _, _ => by simp at h
  | x :: a, [], i, _, _, h, _ => by simp at h
  | x :: a, y :: b, 0, _, _, _, h => by simp at h; simp [partL, h]
  | x :: a, y :: b, i + 1, h, h1, h2, h3 => by
    have h0 : x = y := by simpa using h 0 (by omega)
    have := part_step a b i (fun k hk => by simpa using h (k + 1) (by omega)) (by simpa using h1) (by simpa using h2) (by simpa using h3)
    simp only [partL, h0, if_true, this]
theorem part_all : ∀ (a b : List Int), (∀ k, k < min a.length b.length → a.getD k 0 = b.getD k 0) → partL a b = min a.length b.length
  | [], b, _ => by cases b <;> simp [partL]
  | x :: a, [], _ => by simp [partL]
  | x :: a, y :: b, h => by
    have h0 : x = y := by simpa using h 0 (by simp)
    have := part_all a b (fun k hk => by simpa using h (k + 1) (by simp; omega))
    simp only [partL, h0, if_true, this]
    simp
theorem parted_ok (a b : List Int) (ha : a.length ≤ 1000000) (hb' : b.length ≤ 1000000) : Ct Try.prog 96 [B8 a, B8 b] [] (lv (.int .i64 (partL a b))) [] [] := by
  refine Ct_intro Try.func96 rfl rfl rfl rfl rfl (fun E hn hb => ?_)
  repeat (first | refine stp ?_ | refine N_block_pass rfl ?_ | refine sp1 ?_ | refine sg1 ?_ | refine WL_nil ?_)
  have hN : min (a.length : Int) b.length = ((min a.length b.length : Nat) : Int) := by omega
  rw [hN]
  generalize hn0 : min a.length b.length = n at *
  refine W_weaken (St.le_of (l := [(0, B8 a), (1, B8 b), (5, lv (.int .i64 (n : Int))), (12, lv (.int .i64 (n : Int))), (13, lv (.int .i64 0))]) (h := []) (by refine ⟨?_, ?_⟩ <;> (repeat' (first | exact trivial | exact rfl | refine ⟨?_, ?_⟩)) <;> first | exact rfl | (simp; done) | skip)) ?_
  refine W_loop (ι := {i : Nat // i ≤ n ∧ ∀ k, k < i → a.getD k 0 = b.getD k 0}) (fun i => St.of [(0, B8 a), (1, B8 b), (5, lv (.int .i64 (n : Int))), (12, lv (.int .i64 (n : Int))), (13, lv (.int .i64 (i.1 : Int)))] []) (fun i => n - i.1) (fun i => ?_) ⟨0, by omega, fun k hk => by omega⟩
  obtain ⟨i, hi, he⟩ := i
  dsimp only
  repeat (first | refine stp ?_ | refine N_block_pass rfl ?_ | refine sp1 ?_ | refine sg1 ?_ | refine WL_nil ?_)
  refine W_cond rfl (by simp) (fun hc => ?_) (fun hc => ?_)
  · have hin : i < n := by simp at hc; omega
    repeat (first | refine stp ?_ | refine N_block_pass rfl ?_ | refine sp1 ?_ | refine sg1 ?_ | refine WL_nil ?_)
    refine W_drawW 9 (by kernel_rfl) (by kernel_rfl) (by kernel_rfl) (by rw [hn]; rfl) rfl rfl ?_
    repeat (first | refine dp1 ?_ | refine dg1 ?_ | refine DrawW_nil ?_)
    repeat (first | refine stp ?_ | refine N_block_pass rfl ?_ | refine sp1 ?_ | refine sg1 ?_ | refine WL_nil ?_)
    refine W_cond rfl (by simp) (fun hq => ?_) (fun hq => ?_)
    · have hne : a.getD i 0 ≠ b.getD i 0 := by simpa using hq
      rw [part_step a b i he (by omega) (by omega) hne]
      repeat (first | refine stp ?_ | refine N_block_pass rfl ?_ | refine sp1 ?_ | refine sg1 ?_ | refine WL_nil ?_)
      exact rt1 []
    · have hne : a.getD i 0 = b.getD i 0 := by simpa using hq
      repeat (first | refine stp ?_ | refine N_block_pass rfl ?_ | refine sp1 ?_ | refine sg1 ?_ | refine WL_nil ?_)
      refine N_round ⟨i + 1, by omega, fun k hk => ?_⟩ (by dsimp only; omega) (St.le_of ⟨⟨rfl, rfl, rfl, rfl, rfl⟩, trivial⟩)
      rcases Nat.lt_or_ge k i with h | h
      · exact he k h
      · have : k = i := by omega
        subst this; exact hne
  · have : i = n := by simp at hc; omega
    subst this
    rw [part_all a b (by rw [hn0]; exact he), hn0]
    repeat (first | refine stp ?_ | refine N_block_pass rfl ?_ | refine sp1 ?_ | refine sg1 ?_ | refine WL_nil ?_)
    exact rt1 []

end Go.Proofs.Ythoaneleeabadaa

namespace Go.Proofs.Ythoaneleeabadaa
set_option linter.unusedSimpArgs false
set_option linter.unusedVariables false
open Go.Sx

set_option maxRecDepth 10000

def shP {α : Type} (k : Nat) (r : α × Nat × Int) : α × Nat × Int := (r.1, k + r.2.1, r.2.2)
theorem keepP_sh {α : Type} (z : α) (k p : Nat) (r : α × Nat × Int) : keepP z (k + p) (shP k r) = shP k (keepP z p r) := by
  unfold keepP shP
  dsimp only
  split <;> rfl
theorem getD_sh (b : List Int) (k p : Nat) : (b.drop k).getD p 0 = b.getD (k + p) 0 := by
  rw [List.getD_eq_getElem?_getD, List.getD_eq_getElem?_getD, List.getElem?_drop]
theorem lt_sh (b : List Int) (k p : Nat) : p < (b.drop k).length ↔ k + p < b.length := by simp; omega
theorem le_sh (b : List Int) (k p : Nat) (hk : k ≤ b.length) : (b.drop k).length < p ↔ b.length < k + p := by simp; omega
theorem numP_sh (b : List Int) (k : Nat) : ∀ (f p : Nat) (n : Int), numP b f (k + p) n = shP k (numP (b.drop k) f p n)
  | 0, p, n => by
    unfold numP
    simp only [lt_sh]
    split <;> rfl
  | f + 1, p, n => by
    have ih := numP_sh b k f (p + 1) (128 * n + b.getD (k + p) 0 % 128)
    unfold numP
    simp only [lt_sh, getD_sh]
    split
    · split
      · rfl
      · split
        · split <;> rfl
        · exact ih
    · rfl
theorem tagP_sh (b : List Int) (k p : Nat) : tagP b (k + p) = shP k (tagP (b.drop k) p) := by
  have hn : numP b 3 (k + p + 1) 0 = shP k (numP (b.drop k) 3 (p + 1) 0) := numP_sh b k 3 (p + 1) 0
  have hr : rawT b (k + p) = shP k (rawT (b.drop k) p) := by
    unfold rawT
    simp only [lt_sh, getD_sh, hn]
    split
    · split <;> rfl
    · rfl
  unfold tagP
  rw [hr, keepP_sh]
theorem longP_sh (b : List Int) (k p n : Nat) (hk : k ≤ b.length) : longP b (k + p) n = shP k (longP (b.drop k) p n) := by
  unfold longP
  simp only [le_sh b k _ hk, getD_sh, List.drop_drop, Nat.add_assoc]
  repeat' split
  all_goals simp [shP, Nat.add_assoc]
theorem lenP_sh (b : List Int) (k p : Nat) (hk : k ≤ b.length) : lenP b (k + p) = shP k (lenP (b.drop k) p) := by
  have hl : ∀ n, longP b (k + p + 1) n = shP k (longP (b.drop k) (p + 1) n) := fun n => longP_sh b k (p + 1) n hk
  have hr : rawL b (k + p) = shP k (rawL (b.drop k) p) := by
    unfold rawL
    simp only [lt_sh, getD_sh, hl]
    repeat' split
    all_goals rfl
  unfold lenP
  rw [hr, keepP_sh]
theorem readP_sh (b : List Int) (k p : Nat) (hk : k ≤ b.length) : readP b (k + p) = shP k (readP (b.drop k) p) := by
  have ht := tagP_sh b k p
  have hr : rawF b (k + p) = shP k (rawF (b.drop k) p) := by
    unfold rawF
    rw [ht]
    have hl := lenP_sh b k (tagP (b.drop k) p).2.1 hk
    unfold shP at hl ⊢
    dsimp only
    rw [hl]
    split <;> rfl
  unfold readP
  rw [hr, keepP_sh]
/-- A whole that is all that is left, is one whole. -/
theorem wholes_one (x : List Int) (p : Nat) (hp : p < x.length) (h0 : (readP x p).2.2 = 0) (h1 : (readP x p).1.2 = (x.length : Int) - ((readP x p).2.1 : Int)) : wholesP (x.drop p) 0 = ([x.drop p], 0) := by
  have hle := readP_le x p (by omega)
  have hs := readP_sh x p 0 (by omega)
  rw [Nat.add_zero] at hs
  rw [hs] at h0 h1 hle
  generalize hr : readP (x.drop p) 0 = R at *
  obtain ⟨⟨t, n⟩, q, e⟩ := R
  unfold shP at *
  dsimp only at *
  subst h0
  have hlen : (x.drop p).length = x.length - p := by simp
  have hone : oneP (x.drop p) 0 = (x.drop p, t, ((x.drop p).drop q).take n.toNat, 0, x.length - p) := by
    unfold oneP
    rw [hr]
    dsimp only
    rw [if_neg (by simp), if_neg (by rw [hlen]; omega), List.drop_zero, List.take_of_length_le (by rw [hlen]; omega), show q + n.toNat = x.length - p by omega]
  unfold wholesP
  rw [hlen, show x.length - p + 1 = (x.length - p - 1) + 1 + 1 by omega, wholesA, if_neg (by rw [hlen]; omega), hone]
  dsimp only
  rw [if_neg (by simp), wholesA, if_pos (by rw [hlen]; omega)]
  rfl
end Go.Proofs.Ythoaneleeabadaa

namespace Go.Proofs.Ythoaneleeabadaa
set_option linter.unusedSimpArgs false
set_option linter.unusedVariables false
open Go.Sx

set_option maxRecDepth 10000

/-! The hash, in plain words. -/
/-- A word is below 2^32. -/
def W32 (x : Int) : Prop := 0 ≤ x ∧ x < 4294967296
structure V8 where
  a : Int
  b : Int
  c : Int
  d : Int
  e : Int
  f : Int
  g : Int
  h : Int
def V8.l (v : V8) : List Int := [v.a, v.b, v.c, v.d, v.e, v.f, v.g, v.h]
def V8.ok (v : V8) : Prop := W32 v.a ∧ W32 v.b ∧ W32 v.c ∧ W32 v.d ∧ W32 v.e ∧ W32 v.f ∧ W32 v.g ∧ W32 v.h
def KS : List Int := [
  0x428a2f98, 0x71374491, 0xb5c0fbcf, 0xe9b5dba5, 0x3956c25b, 0x59f111f1, 0x923f82a4, 0xab1c5ed5,
  0xd807aa98, 0x12835b01, 0x243185be, 0x550c7dc3, 0x72be5d74, 0x80deb1fe, 0x9bdc06a7, 0xc19bf174,
  0xe49b69c1, 0xefbe4786, 0x0fc19dc6, 0x240ca1cc, 0x2de92c6f, 0x4a7484aa, 0x5cb0a9dc, 0x76f988da,
  0x983e5152, 0xa831c66d, 0xb00327c8, 0xbf597fc7, 0xc6e00bf3, 0xd5a79147, 0x06ca6351, 0x14292967,
  0x27b70a85, 0x2e1b2138, 0x4d2c6dfc, 0x53380d13, 0x650a7354, 0x766a0abb, 0x81c2c92e, 0x92722c85,
  0xa2bfe8a1, 0xa81a664b, 0xc24b8b70, 0xc76c51a3, 0xd192e819, 0xd6990624, 0xf40e3585, 0x106aa070,
  0x19a4c116, 0x1e376c08, 0x2748774c, 0x34b0bcb5, 0x391c0cb3, 0x4ed8aa4a, 0x5b9cca4f, 0x682e6ff3,
  0x748f82ee, 0x78a5636f, 0x84c87814, 0x8cc70208, 0x90befffa, 0xa4506ceb, 0xbef9a3f7, 0xc67178f2]
def wordBytes (x : Int) : List Int := [x / 16777216 % 256, x / 65536 % 256, x / 256 % 256, x % 256]
def V8.bytes (v : V8) : List Int := v.l.flatMap wordBytes
/-! The words' sums. -/
/-! The walks. -/
end Go.Proofs.Ythoaneleeabadaa

namespace Go.Proofs.Ythoaneleeabadaa
set_option linter.unusedSimpArgs false
set_option linter.unusedVariables false
open Go.Sx

set_option maxRecDepth 10000

@[simp] theorem KS_len : KS.length = 64 := rfl
@[simp] theorem KS_nil : KS ≠ [] := by intro h; cases h
abbrev u32C (x : Int) : Cell := .lf (.v (.int .u32 x))
end Go.Proofs.Ythoaneleeabadaa

namespace Go.Proofs.Ythoaneleeabadaa
set_option linter.unusedSimpArgs false
set_option linter.unusedVariables false
open Go.Sx

set_option maxRecDepth 10000

/-- A hash's cells. -/
abbrev hC (v : V8) (bg : Bool) (X : Cell) (n : Int) : List Cell := [u32C v.a, u32C v.b, u32C v.c, u32C v.d, u32C v.e, u32C v.f, u32C v.g, u32C v.h, .lf (.v (.bool bg)), X, .lf (.v (.int .i64 n))]
end Go.Proofs.Ythoaneleeabadaa

namespace Go.Proofs.Ythoaneleeabadaa
set_option linter.unusedSimpArgs false
set_option linter.unusedVariables false
open Go.Sx

set_option maxRecDepth 10000

theorem wfl_at {l : List Int} (h : WfB l) (p : Nat) : 0 ≤ l.getD p 0 ∧ l.getD p 0 < 256 := by
  rw [List.getD_eq_getElem?_getD]
  cases hx : l[p]? with
  | none => exact ⟨by simp, by simp⟩
  | some x => exact h x (List.mem_of_getElem? hx)
abbrev bitA (u : Int) (l : List Int) : Av := .agg [.lf (.v (.int .i64 u)), .lf (.ints .u8 l)]
/-- Is it a bit string? -/
def rightS (u : Int) (l : List Int) : Bool := if l = [] then decide (u = 0) else decide (0 ≤ u) && decide (u ≤ 7) && decide (l.getD (l.length - 1) 0 % 2 ^ u.toNat = 0)
theorem mask8 : ∀ k : Fin 8, ∀ x : Fin 256, (IntKind.u8.wrap (BitVec.ofInt IntKind.u8.bits ((x.val : Nat) : Int) &&& BitVec.ofInt IntKind.u8.bits (1 * 2 ^ min (((k.val : Nat) : Int).toNat) IntKind.u8.bits - 1)).toNat == 0) = decide (((x.val : Nat) : Int) % 2 ^ (((k.val : Nat) : Int).toNat) = 0) := by decide +kernel
theorem maskU {u x : Int} (hu : 0 ≤ u ∧ u ≤ 7) (hx : 0 ≤ x ∧ x < 256) : (IntKind.u8.wrap (BitVec.ofInt IntKind.u8.bits x &&& BitVec.ofInt IntKind.u8.bits (1 * 2 ^ min u.toNat IntKind.u8.bits - 1)).toNat == 0) = decide (x % 2 ^ u.toNat = 0) := by
  obtain ⟨k, rfl⟩ : ∃ k : Nat, u = k := ⟨u.toNat, by omega⟩
  obtain ⟨y, rfl⟩ : ∃ y : Nat, x = y := ⟨x.toNat, by omega⟩
  exact mask8 ⟨k, by omega⟩ ⟨y, by omega⟩
set_option maxHeartbeats 8000000 in
theorem bright_ok (u : Int) (l : List Int) (hl : l.length ≤ 1000000) (hw : WfB l) : Ct Try.prog 134 [bitA u l] [] (lv (.bool (rightS u l))) [] [] := by
  have hx := wfl_at hw (l.length - 1)
  unfold rightS
  by_cases h0 : l = []
  · rw [if_pos h0]
    subst h0
    refine Ct_intro Try.func134 rfl rfl rfl rfl rfl (fun E hn hb => ?_)
    repeat refine nx ?_
    refine rt2 [] (congrArg (fun x => lv (.bool x)) ?_) trivial
    rfl
  · rw [if_neg h0]
    have hlp : 0 < l.length := by
      cases l with
      | nil => exact absurd rfl h0
      | cons => simp
    by_cases hu : 0 ≤ u ∧ u ≤ 7
    · have : u = 0 ∨ u = 1 ∨ u = 2 ∨ u = 3 ∨ u = 4 ∨ u = 5 ∨ u = 6 ∨ u = 7 := by omega
      rcases this with rfl | rfl | rfl | rfl | rfl | rfl | rfl | rfl
      all_goals
        refine Ct_intro Try.func134 rfl rfl rfl rfl rfl (fun E hn hb => ?_)
        repeat refine nx ?_
        refine rt2 [] (congrArg (fun x => lv (.bool x)) ?_) trivial
        rw [show ((l.length : Int) - 1).toNat = l.length - 1 by omega]
        exact maskU hu hx
    · refine Ct_intro Try.func134 rfl rfl rfl rfl rfl (fun E hn hb => ?_)
      repeat refine nx ?_
      refine rt2 [] (congrArg (fun x => lv (.bool x)) ?_) trivial
      have : ¬ 0 ≤ u ∨ ¬ u ≤ 7 := by omega
      rcases this with h | h
      · rw [decide_eq_false h]; rfl
      · rw [decide_eq_false h]; cases decide (0 ≤ u) <;> rfl
end Go.Proofs.Ythoaneleeabadaa

namespace Go.Proofs.Ythoaneleeabadaa
set_option linter.unusedSimpArgs false
set_option linter.unusedVariables false
open Go.Sx

set_option maxRecDepth 10000

/-- The bit string of contents: the unused bits, the bytes; whether it is one. -/
def parS (l : List Int) : Int × List Int × Bool := match l with
  | [] => (0, [], false)
  | u :: m => if rightS u m = true then (u, m, true) else (0, [], false)
theorem bparse_ok (l : List Int) (hl : l.length ≤ 1000000) (hw : WfB l) : Ct Try.prog 129 [B8 l] [] (.tup [bitA (parS l).1 (parS l).2.1, lv (.int .i64 (cond (parS l).2.2 0 6))]) [] [] := by
  cases l with
  | nil =>
    refine Ct_intro Try.func129 rfl rfl rfl rfl rfl (fun E hn hb => ?_)
    repeat refine nx ?_
    refine rtU [] (hu := ?_)
    exact ⟨⟨.inl rfl, .inr ⟨rfl, .inl ⟨_, rfl⟩⟩, trivial⟩, .inl rfl, trivial⟩
  | cons u m =>
    have hr := bright_ok u m (by simp at hl; omega) (fun x hx => hw x (List.mem_cons_of_mem _ hx))
    have hcl := clone_ok m (by simp at hl; omega)
    have hu := hw u (List.mem_cons_self ..)
    unfold parS
    dsimp only
    by_cases hrs : rightS u m = true
    · rw [if_pos hrs]
      rw [hrs] at hr
      refine Ct_intro Try.func129 rfl rfl rfl rfl rfl (fun E hn hb => ?_)
      repeat refine nx ?_
      exact rt1 []
    · rw [if_neg hrs]
      rw [Bool.not_eq_true] at hrs
      rw [hrs] at hr
      refine Ct_intro Try.func129 rfl rfl rfl rfl rfl (fun E hn hb => ?_)
      repeat refine nx ?_
      refine rtU [] (hu := ?_)
      exact ⟨⟨.inl rfl, .inr ⟨rfl, .inl ⟨_, rfl⟩⟩, trivial⟩, .inl rfl, trivial⟩
/-- The next bit string: the unused bits, the bytes, the place behind it, the error. -/
def bitR (l : List Int) (p : Nat) : Int × List Int × Nat × Int :=
  let r := openP l p (ofT 3)
  if r.2.2 = 0 then (let s := parS r.1; if s.2.2 = true then (s.1, s.2.1, r.2.1, 0) else (0, [], p, 6)) else (0, [], p, r.2.2)
theorem parS_no {l : List Int} (h : ¬ (parS l).2.2 = true) : parS l = (0, [], false) := by
  unfold parS at h ⊢
  cases l with
  | nil => rfl
  | cons u m =>
    dsimp only at h ⊢
    by_cases hr : rightS u m = true
    · rw [if_pos hr] at h; exact absurd rfl h
    · rw [if_neg hr]
set_option maxHeartbeats 4000000 in
theorem bread0_ok (l : List Int) (p : Nat) (hp : p ≤ l.length) (hl : l.length ≤ 1000000) (hw : WfB l) : Ct Try.prog 128 [.c (.ptr 0 0), lv (.int .i64 3), .c (.fn (.func 129) [] [])] [curB l p] (.tup [bitA (bitR l p).1 (bitR l p).2.1, lv (.int .i64 (bitR l p).2.2.2)]) [curB l (bitR l p).2.2.1] [] := by
  have hat := at_ok l p
  have hho := headof_ok 3
  have hop := open_ok l p (ofT 3) hp hl hw
  have hoe := open_err l p (ofT 3) hp hl hw
  have hle := openP_le l p (ofT 3) hp
  have hmem := openP_mem l p (ofT 3)
  unfold bitR
  generalize openP l p (ofT 3) = X at *
  obtain ⟨x, q, e⟩ := X
  dsimp only at *
  by_cases he : e = 0
  · subst he
    have hop := hop rfl
    rw [if_pos rfl]
    have hre := rest_ok x 0 (Nat.zero_le _) (by omega)
    rw [List.drop_zero] at hre
    have hpa := bparse_ok x (by omega) (fun y hy => hw y (hmem.2 y hy))
    have hbk := back_ok l q p hle.1 (by omega)
    by_cases hs : (parS x).2.2 = true
    · rw [if_pos hs]
      rw [hs] at hpa
      dsimp only
      generalize parS x = Y at *
      obtain ⟨u, m, b⟩ := Y
      dsimp only at *
      change Ct Try.prog 129 [B8 x] [] (.tup [bitA u m, lv (.int .i64 0)]) [] [] at hpa
      refine Ct_intro Try.func128 rfl rfl rfl rfl rfl (fun E hn hb => ?_)
      repeat refine nx ?_
      exact rt1 []
    · rw [if_neg hs]
      rw [parS_no hs] at hpa
      change Ct Try.prog 129 [B8 x] [] (.tup [bitA 0 [], lv (.int .i64 6)]) [] [] at hpa
      refine Ct_intro Try.func128 rfl rfl rfl rfl rfl (fun E hn hb => ?_)
      repeat refine nx ?_
      refine rtU [] (hu := ?_)
      exact ⟨⟨.inl rfl, .inr ⟨rfl, .inl ⟨_, rfl⟩⟩, trivial⟩, .inl rfl, trivial⟩
  · have hoe := hoe he
    rw [if_neg he]
    refine Ct_intro Try.func128 rfl rfl rfl rfl rfl (fun E hn hb => ?_)
    repeat refine nx ?_
    refine rtU [] (hu := ?_)
    exact ⟨⟨.inl rfl, .inr ⟨rfl, .inl ⟨_, rfl⟩⟩, trivial⟩, .inl rfl, trivial⟩
theorem bread_ok (l : List Int) (p : Nat) (hp : p ≤ l.length) (hl : l.length ≤ 1000000) (hw : WfB l) : Ct Try.prog 110 [.c (.ptr 0 0)] [curB l p] (.tup [bitA (bitR l p).1 (bitR l p).2.1, lv (.int .i64 (bitR l p).2.2.2)]) [curB l (bitR l p).2.2.1] [] := by
  have h := bread0_ok l p hp hl hw
  refine Ct_intro Try.func110 rfl rfl rfl rfl rfl (fun E hn hb => ?_)
  repeat refine nx ?_
  exact rt1 []
end Go.Proofs.Ythoaneleeabadaa

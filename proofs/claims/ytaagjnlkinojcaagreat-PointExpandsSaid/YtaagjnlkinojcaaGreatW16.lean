/-
  Chapter 03: numbers as ints. The conditions: rows of at most a million bytes.
-/
import Derived.Test.YtaagjnlkinojcaaGreatTy
import Derived.Test.YtaagjnlkinojcaaGreatC1
import Derived.Test.YtaagjnlkinojcaaGreatSxX
namespace Go.Proofs.YtaagjnlkinojcaaGreat
set_option linter.unusedSimpArgs false
set_option linter.unusedVariables false
open Go.Sx
set_option maxRecDepth 10000
abbrev B8 (l : List Int) : Av := .c (.lf (.ints .u8 l))
theorem zeG (l : List Int) (hl : l.length ≤ 16000000) : Ct Tryz.prog 136 [B8 l] [] (.c (.own 0 1 0 l.length)) [] [.row (.ints .u8 l)] := by
 refine z00 Tryz.func136 rfl rfl rfl rfl rfl (fun E hn hb => ?_)
 repeat (refine nst ?_)
 refine z6E (neg := false) rfl rfl (by rw [hn]; rfl) Tryz.underlying28 rfl (by simp) (by simp [szD]) (fun b hbl => ?_)
 simp [z0c] at hbl
 repeat (refine nst ?_)
 refine z04 rfl (by simp) (fun hc => ?_) (fun hc => ?_)
 · have := hbl hc
   subst this
   repeat (refine nst ?_)
   refine z5g 2 64 1 (.ints .u8 []) rfl rfl (.inl rfl) ?_
   exact z7U [64] rfl trivial ⟨rfl, trivial, rfl, rfl⟩ hb rfl trivial
 · repeat (refine nst ?_)
   refine z1l rfl rfl rfl (by rw [hn]; rfl) (z0j Tryz.underlying28 rfl rfl) (z2p) (by exact vcs) ⟨by decide, rfl⟩ ?_
   repeat (refine nst ?_)
   refine z1U rfl rfl rfl rfl rfl rfl (by rw [hn]; rfl) (z0j Tryz.underlying28 rfl rfl) rfl rfl rfl rfl (by exact vcs) (by first | rfl | (simp; done) | (simp; omega)) ⟨by first | (simp; done) | (simp; omega) | (simp at *; omega), by decide⟩ ?_
   repeat (refine nst ?_)
   exact z7U [69] rfl trivial ⟨rfl, trivial, rfl, rfl⟩ hb rfl trivial
theorem z7R (l : List Int) (hl : l.length ≤ 16000000) : Ct Tryz.prog 136 [B8 l] [] (B8 l) [] [] :=
 (zeG l hl).freeze ⟨rfl, rfl, rfl, by simp, by simp⟩ rfl
def z0v : List Int → List Int → Int
 | [], [] => 0
 | [], _ :: _ => -1
 | _ :: _, [] => 1
 | x :: a, y :: b => if x < y then -1 else if y < x then 1 else z0v a b
set_option maxHeartbeats 4000000 in
theorem z8z (a b : List Int) (ha : a.length ≤ 16000000) (hb' : b.length ≤ 16000000) : Ct Tryz.prog 92 [B8 a, B8 b] [] (lv (.int .i64 (z0v a b))) [] [] := by
 refine z00 Tryz.func92 rfl rfl rfl rfl rfl (fun E hn hb => ?_)
 repeat (refine nst ?_)
 refine z0d (St.le_of (l := [(0, B8 a), (1, B8 b), (5, lv (.int .i64 0))]) (h := []) (by refine ⟨?_, ?_⟩ <;> (repeat' (first | exact trivial | exact rfl | refine ⟨?_, ?_⟩)) <;> first | exact rfl | (simp; done) | skip)) ?_
 refine z0l (ι := {i : Nat // i ≤ 16000000 ∧ z0v (a.drop i) (b.drop i) = z0v a b}) (fun i => St.of [(0, B8 a), (1, B8 b), (5, lv (.int .i64 (i.1 : Int)))] []) (fun i => 16000001 - i.1) (fun i => ?_) ⟨0, by omega, rfl⟩
 obtain ⟨i, hi, he⟩ := i
 dsimp only
 repeat (refine nst ?_)
 refine z04 rfl (by simp) (fun hc => ?_) (fun hc => ?_)
 · simp at hc
   repeat (refine nst ?_)
   refine z2u 21 (by kernel_rfl) (by kernel_rfl) (by kernel_rfl) (by rw [hn]; rfl) rfl rfl ?_
   repeat (first | refine dp1 ?_ | refine dg1 ?_ | refine z0E ?_)
   repeat (refine nst ?_)
   have key : ∀ x : List Int, i < x.length → x.drop i = x.getD i 0 :: x.drop (i + 1) := fun x h => by
     rw [List.drop_eq_getElem_cons h]; simp [h]
   refine z04 rfl (by simp) (fun hd => ?_) (fun hd => ?_)
   · repeat (refine nst ?_)
     refine rt2 [] ?_ ?_
     · have : z0v a b = -1 := by
         rw [← he]
         by_cases h1 : i < a.length
         · have h2 : i < b.length ∧ a.getD i 0 < b.getD i 0 := by
             have : ¬ a.length ≤ i := by omega
             simpa [this, Bool.cond_eq_ite] using hd
           rw [key a h1, key b h2.1]
           simp only [z0v, h2.2, if_true]
         · rw [List.drop_eq_nil_of_le (by omega), key b (by omega)]; rfl
       rw [this]; rfl
     · trivial
   · repeat (refine nst ?_)
     have hia : i < a.length ∧ (i < b.length → ¬ a.getD i 0 < b.getD i 0) := by
       rcases Nat.lt_or_ge i a.length with h | h
       · have : ¬ a.length ≤ i := by omega
         refine ⟨h, fun hib => ?_⟩
         simpa [this, hib, Bool.cond_eq_ite] using hd
       · simp [h, Bool.cond_eq_ite] at hd
     clear hd
     refine z2u 15 (by kernel_rfl) (by kernel_rfl) (by kernel_rfl) (by rw [hn]; rfl) rfl rfl ?_
     repeat (first | refine dp1 ?_ | refine dg1 ?_ | refine z0E ?_)
     repeat (refine nst ?_)
     refine z04 rfl (by simp) (fun hd => ?_) (fun hd => ?_)
     · repeat (refine nst ?_)
       refine rt2 [] ?_ ?_
       · have : z0v a b = 1 := by
           rw [← he, key a hia.1]
           by_cases h1 : i < b.length
           · have h2 : b.getD i 0 < a.getD i 0 := by
               have : ¬ b.length ≤ i := by omega
               simpa [this, Bool.cond_eq_ite] using hd
             rw [key b h1]
             simp only [z0v, hia.2 h1, h2, if_true, if_false]
           · rw [List.drop_eq_nil_of_le (by omega : b.length ≤ i)]; rfl
         rw [this]; rfl
       · trivial
     · repeat (refine nst ?_)
       have h1 : i < b.length ∧ ¬ b.getD i 0 < a.getD i 0 := by
         rcases Nat.lt_or_ge i b.length with h | h
         · have : ¬ b.length ≤ i := by omega
           refine ⟨h, ?_⟩
           simpa [this, Bool.cond_eq_ite] using hd
         · simp [h, Bool.cond_eq_ite] at hd
       (refine z0a ?i1 ?i2 ?i3; (case i1 => exact ⟨i + 1, by omega, by rw [← he, key a hia.1, key b h1.1]; simp only [z0v, hia.2 h1.1, h1.2, if_false]⟩); (case i2 => (dsimp only; omega)); (case i3 => refine St.le_of ⟨?_, ?_⟩ <;> (repeat' (first | exact trivial | exact rfl | refine ⟨?_, ?_⟩)) <;> first | exact rfl | (simp; done) | skip))
 · repeat (refine nst ?_)
   refine rt2 [] ?_ ?_
   · have : z0v a b = 0 := by
       rw [← he, List.drop_eq_nil_of_le (by simp at hc; omega), List.drop_eq_nil_of_le (by simp at hc; omega)]; rfl
     rw [this]; rfl
   · trivial
theorem z90 : ∀ a b : List Int, z0v a b = 0 ↔ a = b
 | [], [] => by simp [z0v]
 | [], y :: b => by simp [z0v]
 | x :: a, [] => by simp [z0v]
 | x :: a, y :: b => by
   simp only [z0v, List.cons.injEq]
   rw [← z90 a b]
   split
   · simp; omega
   · split
     · simp; omega
     · have : x = y := by omega
       simp [this]
theorem zc2 (a b : List Int) (ha : a.length ≤ 16000000) (hb' : b.length ≤ 16000000) : Ct Tryz.prog 35 [B8 a, B8 b] [] (lv (.bool (decide (a = b)))) [] [] := by
 refine z00 Tryz.func35 rfl rfl rfl rfl rfl (fun E hn hb => ?_)
 repeat (refine nst ?_)
 refine z1e (z8z a b ha hb') rfl rfl rfl (by rw [hn]; rfl) rfl rfl (by exact vcs) rfl rfl rfl ?_
 repeat (refine nst ?_)
 refine rt2 [] ?_ ?_
 · have : (z0v a b == 0) = decide (a = b) := by
     rw [Bool.eq_iff_iff]; simp [z90]
   rw [← this]; rfl
 · trivial

theorem z35 (l : List Int) (hl : l.length ≤ 16000000) : Ct Tryz.prog 13 [B8 l] [] (.c (.ptr 0 0)) [] [z06 l 0] := by
 refine z00 Tryz.func13 rfl rfl rfl rfl rfl (fun E hn hb => ?_)
 repeat (refine nst ?_)
 refine z1b rfl rfl rfl (by rw [hn]; rfl) rfl (by exact vcs) rfl rfl ?_
 repeat (refine nst ?_)
 refine zbC (by_ := 1) rfl rfl rfl (by rw [hn]; rfl) (z0j Tryz.underlying28 rfl rfl) rfl rfl rfl (by exact vcs) l.length (by first | rfl | (simp; done) | omega) (by first | (simp; done) | omega | (simp at *; omega)) ?_
 repeat (refine nst ?_)
 refine z0h rfl rfl rfl rfl rfl (by exact vcs) rfl rfl rfl (by rw [z2A]; rfl) (by rw [z3X]; rfl) rfl rfl ?_
 repeat (refine nst ?_)
 refine zbD rfl rfl rfl rfl rfl rfl (by rw [hn]; rfl) (z0j Tryz.underlying28 rfl rfl) rfl rfl rfl (by exact vcs) (by first | (simp; done) | (simp; omega) | (simp at *; omega)) ?_
 have e4 : List.take 0 (List.replicate l.length (0 : Int)) ++ List.take l.length l ++ List.drop (0 + (List.take l.length l).length) (List.replicate l.length (0 : Int)) = l := by
   simp
 rw [e4]
 refine zcq (fun a w h => SR.freezeC (d := .ints .u8 l) (cs := [.own 73 1 0 l.length, .lf (.v (.int .i64 0))]) (cs' := [.lf (.ints .u8 l), .lf (.v (.int .i64 0))]) 73 69 rfl rfl rfl (by rw [hb]; decide) (fun i hi => by rw [hb] at hi; exact absurd hi (Nat.not_lt_zero _)) ⟨⟨rfl, rfl, rfl, by omega, by rw [List.drop_zero, List.take_length]⟩, rfl, trivial⟩ h) ?_
 repeat (refine nst ?_)
 exact rt1 [69]
theorem z7k (l : List Int) (p : Nat) (hp : p < l.length) (hl : l.length ≤ 16000000) : Ct Tryz.prog 201 [.c (.ptr 0 0)] [z06 l p] (.tup [lv (.int .u8 (l.getD p 0)), lv (.int .i64 0)]) [z06 l (p + 1)] [] := by
 have e : ((p : Int) + 1) = ((p + 1 : Nat) : Int) := by omega
 refine z00 Tryz.func201 rfl rfl rfl rfl rfl (fun E hn hb => ?_)
 repeat (refine nst ?_)
 refine z0W (z0A (z14 (zha l p hp (by omega)) rfl rfl rfl (by exact vcs) ⟨.inr (.inr ⟨0, 0, _, _, rfl, rfl, rfl, rfl⟩), trivial⟩ rfl) rfl) (by rw [hn]; rfl) ?_
 repeat (refine nst ?_)
 refine z04 rfl (by simp) (fun h1 => ?_) (fun h1 => ?_)
 · repeat (refine nst ?_)
   refine z0h rfl rfl rfl rfl rfl (by exact vcs) rfl rfl rfl (by rw [z2o]; rfl) (by rw [z4I]; rfl) rfl rfl ?_
   repeat (refine nst ?_)
   refine rt2 [] ?_ ?_
   · rfl
   · trivial
 · simp at h1
theorem z6k (l : List Int) (hl : l.length ≤ 16000000) : Ct Tryz.prog 201 [.c (.ptr 0 0)] [z06 l l.length] (.tup [lv (.int .u8 0), lv (.int .i64 3)]) [z06 l l.length] [] := by
 refine z00 Tryz.func201 rfl rfl rfl rfl rfl (fun E hn hb => ?_)
 repeat (refine nst ?_)
 refine z0W (z0A (z14 (zfK l (by omega)) rfl rfl rfl (by exact vcs) ⟨.inr (.inr ⟨0, 0, _, _, rfl, rfl, rfl, rfl⟩), trivial⟩ rfl) rfl) (by rw [hn]; rfl) ?_
 repeat (refine nst ?_)
 refine z04 rfl (by simp) (fun h1 => ?_) (fun h1 => ?_)
 · simp at h1
 · repeat (refine nst ?_)
   exact rt1 []
theorem z5O (l : List Int) (p n : Nat) (hp : p + n ≤ l.length) (hl : l.length ≤ 16000000) : Ct Tryz.prog 177 [.c (.ptr 0 0), lv (.int .i64 (n : Int))] [z06 l p] (.tup [B8 ((l.drop p).take n), lv (.int .i64 0)]) [z06 l (p + n)] [] := by
 have e : z55 l p n = 0 := by rw [z55, if_neg (by omega), if_neg (by omega)]
 have hm := ze2 l p n (by omega) (by omega)
 rw [e] at hm
 have hlen : ((l.drop p).take n).length = n := by simp; omega
 refine z00 Tryz.func177 rfl rfl rfl rfl rfl (fun E hn hb => ?_)
 repeat (refine nst ?_)
 refine z0W (z0A (z14 (hm) rfl rfl rfl (by exact vcs) ⟨.inr (.inr ⟨0, 0, _, _, rfl, rfl, rfl, rfl⟩), .inl rfl, trivial⟩ rfl) rfl) (by rw [hn]; rfl) ?_
 repeat (refine nst ?_)
 refine z04 rfl (by simp) (fun h1 => ?_) (fun h1 => ?_)
 · simp at h1
 repeat (refine nst ?_)
 refine z8V (by kernel_rfl) (by kernel_rfl) (by rw [hn]; rfl) ?_
 repeat (first | refine dp1 ?_ | refine dg1 ?_ | refine z0E ?_)
 refine z1f rfl (z1c (z8p (ze3 l p p n hp hl) rfl rfl rfl (by exact vcs) ⟨.inr (.inr ⟨0, 0, _, _, rfl, rfl, rfl, rfl⟩), .inl rfl, .inl rfl, trivial⟩ rfl (by first | (simp; done) | (simp; omega) | omega)) rfl) ?_
 repeat (first | refine dp1 ?_ | refine dg1 ?_ | refine z0E ?_)
 repeat (refine nst ?_)
 refine z0h rfl rfl rfl rfl rfl (by exact vcs) rfl rfl rfl (by rw [z2o]; rfl) (by rw [z4I]; rfl) rfl rfl ?_
 repeat (refine nst ?_)
 refine rt2 [] ?_ ?_
 · show Av.tup [B8 ((((l.drop p).take n).drop 0).take n), lv (.int .i64 0)] = _
   rw [List.drop_zero, List.take_of_length_le (by omega)]
   rfl
 · trivial
theorem z7S (l : List Int) (p : Nat) (n : Int) (h0 : 0 ≤ n) (hp : p ≤ l.length) (hn : (l.length : Int) - p < n) (hl : l.length ≤ 16000000) : Ct Tryz.prog 177 [.c (.ptr 0 0), lv (.int .i64 n)] [z06 l p] (.tup [.c (.lf (.v (.slice none 0 0))), lv (.int .i64 3)]) [z06 l p] [] := by
 have e : z55 l p n = 3 := by rw [z55, if_neg (by omega), if_pos hn]
 have hm := ze2 l p n (by omega) (by omega)
 rw [e] at hm
 refine z00 Tryz.func177 rfl rfl rfl rfl rfl (fun E hn hb => ?_)
 repeat (refine nst ?_)
 refine z0W (z0A (z14 (hm) rfl rfl rfl (by exact vcs) ⟨.inr (.inr ⟨0, 0, _, _, rfl, rfl, rfl, rfl⟩), .inl rfl, trivial⟩ rfl) rfl) (by rw [hn]; rfl) ?_
 repeat (refine nst ?_)
 refine z04 rfl (by simp) (fun h1 => ?_) (fun h1 => ?_)
 · repeat (refine nst ?_)
   exact rt1 []
 · simp at h1
theorem z22 (l : List Int) (p q : Nat) (hq : q ≤ p) (hl : p ≤ 16000000) : Ct Tryz.prog 65 [.c (.ptr 0 0), lv (.int .i64 (q : Int))] [z06 l p] (lv (.int .i64 0)) [z06 l q] [] := by
 refine z00 Tryz.func65 rfl rfl rfl rfl rfl (fun E hn hb => ?_)
 repeat (refine nst ?_)
 refine z0W (z0A (z2T (neg := false) rfl rfl rfl rfl (by exact vcs)) rfl) (by rw [hn]; rfl) ?_
 repeat (refine nst ?_)
 refine z04 rfl (by simp) (fun h1 => ?_) (fun h1 => ?_)
 · simp at h1
 repeat (refine nst ?_)
 refine z04 rfl (by simp) (fun h1 => ?_) (fun h1 => ?_)
 · simp at h1; omega
 repeat (refine nst ?_)
 refine z0h rfl rfl rfl rfl rfl (by exact vcs) rfl rfl rfl (by rw [z2o]; rfl) (by rw [z4I]; rfl) rfl rfl ?_
 repeat (refine nst ?_)
 exact rt1 []
theorem zc3 (l : List Int) (p : Nat) (hp : p ≤ l.length) (hl : l.length ≤ 16000000) : Ct Tryz.prog 117 [.c (.ptr 0 0)] [z06 l p] (B8 (l.drop p)) [z06 l l.length] [] := by
 have hc := ze3 l p p (l.length - p) (by omega) hl
 have e : ((p : Int) + ((l.length - p : Nat) : Int)) = (l.length : Int) := by omega
 rw [e] at hc
 have e2 : (((l.drop p).take (l.length - p)).drop 0).take (l.length - p) = l.drop p := by
   rw [List.drop_zero, List.take_take, Nat.min_self, List.take_of_length_le (by simp)]
 refine z00 Tryz.func117 rfl rfl rfl rfl rfl (fun E hn hb => ?_)
 repeat (refine nst ?_)
 refine z0W (z0A (z2T (neg := false) rfl rfl rfl rfl (by exact vcs)) rfl) (by rw [hn]; rfl) ?_
 repeat (refine nst ?_)
 refine z04 rfl (by simp) (fun h1 => ?_) (fun h1 => ?_)
 · simp at h1
 repeat (refine nst ?_)
 refine z8V (by kernel_rfl) (by kernel_rfl) (by rw [hn]; rfl) ?_
 repeat (first | refine dp1 ?_ | refine dg1 ?_ | refine z0E ?_)
 refine z1f rfl (z1c (z6c (z8P l p) rfl rfl rfl (by exact vcs) ⟨.inr (.inr ⟨0, 0, _, _, rfl, rfl, rfl, rfl⟩), trivial⟩ rfl) rfl) ?_
 repeat (first | refine dp1 ?_ | refine dg1 ?_ | refine z0E ?_)
 refine z1f rfl (z1c (z8p (hc) rfl rfl rfl (by exact vcs) ⟨.inr (.inr ⟨0, 0, _, _, rfl, rfl, rfl, rfl⟩), .inl rfl, .inl rfl, trivial⟩ rfl (by first | (simp; done) | (simp; omega) | omega)) rfl) ?_
 repeat (first | refine dp1 ?_ | refine dg1 ?_ | refine z0E ?_)
 repeat (refine nst ?_)
 refine z0W (z0A (z14 (z8P l p) rfl rfl rfl (by exact vcs) ⟨.inr (.inr ⟨0, 0, _, _, rfl, rfl, rfl, rfl⟩), trivial⟩ rfl) rfl) (by rw [hn]; rfl) ?_
 repeat (refine nst ?_)
 refine z0h rfl rfl rfl rfl rfl (by exact vcs) rfl rfl rfl (by rw [z2o]; rfl) (by rw [z4I]; rfl) rfl rfl ?_
 repeat (refine nst ?_)
 refine rt2 [] ?_ ?_
 · show B8 ((((l.drop p).take (l.length - p)).drop 0).take (l.length - p)) = _
   rw [e2]
   rfl
 · trivial
theorem znm (l : List Int) (p n : Nat) (hp : p + n ≤ l.length) (hl : l.length ≤ 16000000) : Ct Tryz.prog 130 [.c (.ptr 0 0), lv (.int .i64 (n : Int))] [z06 l p] (.tup [.c (.ptr 1 0), lv (.int .i64 0)]) [z06 l (p + n)] [z06 ((l.drop p).take n) 0] := by
 refine z00 Tryz.func130 rfl rfl rfl rfl rfl (fun E hn hb => ?_)
 repeat (refine nst ?_)
 have ht := z5O l p n hp hl
 refine z0r [0] ht rfl rfl (by rw [hn]; rfl) rfl rfl (by trivial) ⟨rfl, rfl, (by simp [z0f]), rfl⟩ ?_
 repeat (refine nst ?_)
 refine z04 rfl (by simp) (fun h1 => ?_) (fun h1 => ?_)
 · simp at h1
 repeat (refine nst ?_)
 refine z1b rfl rfl rfl (by rw [hn]; rfl) rfl (by exact vcs) rfl rfl ?_
 repeat (refine nst ?_)
 refine z0h rfl rfl rfl rfl rfl (by exact vcs) rfl rfl rfl (by rw [z2A]; rfl) (by rw [z3X]; rfl) rfl rfl ?_
 repeat (refine nst ?_)
 exact rt1 [83]
theorem zl2 (l : List Int) (p : Nat) (n : Int) (h0 : 0 ≤ n) (hp : p ≤ l.length) (hn' : (l.length : Int) - p < n) (hl : l.length ≤ 16000000) : Ct Tryz.prog 130 [.c (.ptr 0 0), lv (.int .i64 n)] [z06 l p] (.tup [.c (.lf (.v (.pointer none))), lv (.int .i64 3)]) [z06 l p] [] := by
 refine z00 Tryz.func130 rfl rfl rfl rfl rfl (fun E hn hb => ?_)
 repeat (refine nst ?_)
 have ht := z7S l p n h0 hp hn' hl
 refine z0r [0] ht rfl rfl (by rw [hn]; rfl) rfl rfl (by trivial) ⟨rfl, rfl, (by simp [z0f]), rfl⟩ ?_
 repeat (refine nst ?_)
 refine z04 rfl (by simp) (fun h1 => ?_) (fun h1 => ?_)
 · repeat (refine nst ?_)
   exact rt1 []
 · simp at h1

@[simp] theorem zxZ (x : Int) : IntKind.u8.wrap x = x % 256 := by simp [IntKind.wrap, IntKind.signed, IntKind.bits]
def WfB (l : List Int) : Prop := ∀ x ∈ l, 0 ≤ x ∧ x < 256

def hd0 (l : List Int) : Int := l.getD 0 0

def z2v (l : List Int) (i : Nat) : List Int := (List.range l.length).map fun k => if k < i ∨ l.length ≤ k + i then l.getD (l.length - 1 - k) 0 else l.getD k 0
theorem zgl (l : List Int) (i : Nat) : (z2v l i).length = l.length := by simp [z2v]
theorem zb9 (l : List Int) (i k : Nat) (h : k < l.length) : (z2v l i).getD k 0 = if k < i ∨ l.length ≤ k + i then l.getD (l.length - 1 - k) 0 else l.getD k 0 := by
 simp [z2v, h]
theorem zeH (l : List Int) : z2v l 0 = l := by
 apply List.ext_getElem?
 intro k
 by_cases h : k < l.length
 · simp [z2v, h]; intro; omega
 · simp [z2v, h]
theorem zgm (l : List Int) (i : Nat) (h : l.length ≤ 2 * i + 1) : z2v l i = l.reverse := by
 apply List.ext_getElem?
 intro k
 by_cases hk : k < l.length
 · rw [List.getElem?_reverse hk]
   simp only [z2v, List.getElem?_map, List.getElem?_range hk, Option.map_some]
   have h1 : l.length - 1 - k < l.length := by omega
   rw [List.getElem?_eq_getElem h1]
   split
   · simp [h1]
   · have : l.length - 1 - k = k := by omega
     simp [this, hk]
 · simp [z2v, hk]
theorem zgn (l : List Int) (i : Nat) (h : 2 * i + 1 < l.length) : ((z2v l i).set i (l.getD (l.length - 1 - i) 0)).set (l.length - 1 - i) (l.getD i 0) = z2v l (i + 1) := by
 apply List.ext_getElem?
 intro k
 by_cases hk : k < l.length
 · simp only [List.getElem?_set, z2v, List.getElem?_map, List.getElem?_range hk, Option.map_some, List.length_set, List.length_map, List.length_range]
   by_cases h1 : l.length - 1 - i = k
   · subst h1
     have e : l.length - 1 - (l.length - 1 - i) = i := by omega
     rw [if_pos rfl, if_pos (by omega), e, if_pos (by omega)]
   · rw [if_neg h1]
     by_cases h2 : i = k
     · subst h2
       rw [if_pos rfl, if_pos (by omega), if_pos (by omega)]
     · rw [if_neg h2]
       congr 1
       by_cases h3 : k < i ∨ l.length ≤ k + i
       · rw [if_pos h3, if_pos (by omega)]
       · rw [if_neg h3, if_neg (by omega)]
 · simp [z2v, hk]
theorem z6l (l : List Int) (hl : l.length ≤ 16000000) : Ct Tryz.prog 232 [.c (.own 0 1 0 l.length)] [.row (.ints .u8 l)] (.tup []) [.row (.ints .u8 l.reverse)] [] := by
 refine z00 Tryz.func232 rfl rfl rfl rfl rfl (fun E hn hb => ?_)
 repeat (refine nst ?_)
 have ez := zeH l
 refine z0d (St.le_of (l := [(0, .c (.own 0 1 0 l.length)), (2, lv (.int .i64 0)), (3, lv (.int .i64 ((l.length : Int) - 1)))]) (h := [(0, .row (.ints .u8 l))]) (by refine ⟨?_, ?_⟩ <;> (repeat' (first | exact trivial | exact rfl | refine ⟨?_, ?_⟩)) <;> first | exact rfl | (simp; done) | skip)) ?_
 refine z0d (τ := St.of [(0, .c (.own 0 1 0 l.length)), (2, lv (.int .i64 ((0 : Nat) : Int))), (3, lv (.int .i64 ((l.length : Int) - 1 - (0 : Nat))))] [(0, .row (.ints .u8 (z2v l 0)))]) ?_ ?_
 · rw [ez]; simp only [Int.natCast_zero, Int.sub_zero]; exact ⟨fun _ => .inl rfl, fun _ => .inl rfl⟩
 refine z0l (ι := {i : Nat // 2 * i ≤ l.length + 1}) (fun i => St.of [(0, .c (.own 0 1 0 l.length)), (2, lv (.int .i64 (i.1 : Int))), (3, lv (.int .i64 ((l.length : Int) - 1 - i.1)))] [(0, .row (.ints .u8 (z2v l i.1)))]) (fun i => l.length + 1 - 2 * i.1) (fun i => ?_) ⟨0, by omega⟩
 obtain ⟨i, hi⟩ := i
 dsimp only
 have hL := zgl l i
 repeat (refine nst ?_)
 refine z04 rfl (by simp) (fun hc => ?_) (fun hc => ?_)
 · have h2 : 2 * i + 1 < l.length := by simp at hc; omega
   repeat (refine nst ?_)
   refine zh0 [2, 3] (by kernel_rfl) (by kernel_rfl) (by rw [hn]; rfl) ?_
   repeat (refine nsx ?_)
   refine z6J rfl rfl rfl rfl (by exact vcs) rfl (by rw [z6j]) (by first | (simp; done) | (simp; omega) | (simp at *; omega)) ?_
   repeat (refine nsx ?_)
   refine z6J rfl rfl rfl rfl (by exact vcs) rfl (by rw [z6j]) (by first | (simp; done) | (simp; omega) | (simp at *; omega)) ?_
   repeat (refine nsx ?_)
   repeat (refine nst ?_)
   have e1 : ((l.length : Int) - 1 - i).toNat = l.length - 1 - i := by omega
   have g1 : (z2v l i).getD (0 + ((l.length : Int) - 1 - i).toNat) 0 = l.getD (l.length - 1 - i) 0 := by
     rw [e1, Nat.zero_add, zb9 l i _ (by omega), if_neg (by omega)]
   have g2 : (z2v l i).getD (0 + (i : Int).toNat) 0 = l.getD i 0 := by
     rw [Int.toNat_natCast, Nat.zero_add, zb9 l i _ (by omega), if_neg (by omega)]
   rw [g1, g2]
   refine z0a ⟨i + 1, by omega⟩ (by dsimp only; omega) (St.le_of ⟨⟨rfl, rfl, ?_⟩, ?_⟩)
   · show lv (.int .i64 ((l.length : Int) - 1 - i - 1)) = lv (.int .i64 ((l.length : Int) - 1 - (i + 1 : Nat)))
     have : (l.length : Int) - 1 - i - 1 = (l.length : Int) - 1 - (i + 1 : Nat) := by omega
     rw [this]
   · show Blk.row (.ints .u8 (((z2v l i).set (0 + (i : Int).toNat) (l.getD (l.length - 1 - i) 0)).set (0 + ((l.length : Int) - 1 - i).toNat) (l.getD i 0))) = Blk.row (.ints .u8 (z2v l (i + 1)))
     rw [e1, Int.toNat_natCast, Nat.zero_add, Nat.zero_add, zgn l i h2]
 · have h2 : l.length ≤ 2 * i + 1 := by simp at hc; omega
   repeat (refine nst ?_)
   refine zlO [] rfl trivial ⟨rfl, ?_, trivial, rfl⟩ hb rfl (by simp [z0f])
   exact congrArg (fun l => Blk.row (.ints .u8 l)) (zgm l i h2)

def z0x : Int → List Int → Int
 | c, [] => c
 | c, x :: l => z0x (256 * c + x) l
theorem zc4 {x : Int} {l : List Int} (h : WfB (x :: l)) : WfB l := fun y hy => h y (List.mem_cons_of_mem _ hy)
theorem z6m : ∀ (l : List Int) (c : Int), 0 ≤ c → WfB l → c ≤ z0x c l
 | [], c, _, _ => Int.le_refl _
 | x :: l, c, hc, hw => by
   have hx := hw x (List.mem_cons_self ..)
   have := z6m l (256 * c + x) (by omega) (zc4 hw)
   simp only [z0x]
   omega
theorem z9G : ∀ (l : List Int) (c : Int), WfB l → z0x c l < (c + 1) * 256 ^ l.length
 | [], c, _ => by simp [z0x]; omega
 | x :: l, c, hw => by
   have hx := hw x (List.mem_cons_self ..)
   have := z9G l (256 * c + x) (zc4 hw)
   simp only [z0x, List.length_cons]
   have h2 : (256 * c + x + 1) * 256 ^ l.length ≤ (256 * (c + 1)) * (256 : Int) ^ l.length := Int.mul_le_mul_of_nonneg_right (by omega) (Int.pow_nonneg (by decide))
   have h3 : (c + 1) * (256 : Int) ^ (l.length + 1) = (256 * (c + 1)) * 256 ^ l.length := by
     rw [Int.pow_succ, Int.mul_comm ((256 : Int) ^ l.length) 256, ← Int.mul_assoc, Int.mul_comm (c + 1) 256]
   omega

theorem zc5 {l : List Int} (h : WfB l) (n : Nat) : WfB (l.take n) := fun x hx => h x (List.mem_of_mem_take hx)

theorem zc6 : ∀ (a b : List Int) (c : Int), z0x c (a ++ b) = z0x (z0x c a) b
 | [], _, _ => rfl
 | x :: a, b, c => by simp only [List.cons_append, z0x, zc6 a b]
theorem znn (a b : Nat) (h : a ≤ b) : (256 : Int) ^ a ≤ 256 ^ b := by
 have h1 : (256 : Nat) ^ a ≤ 256 ^ b := Nat.pow_le_pow_right (by decide) h
 have h2 : ((256 ^ a : Nat) : Int) = 256 ^ a := by simp
 have h3 : ((256 ^ b : Nat) : Int) = 256 ^ b := by simp
 rw [← h2, ← h3]
 exact Int.ofNat_le.2 h1
theorem zeI (l : List Int) (n : Nat) (hn : l.length ≤ n) (hw : WfB l) : z0x 0 l < 256 ^ n := by
 have h := z9G l 0 hw
 have h2 := znn l.length n hn
 omega
theorem zba (a : List Int) (x : Int) : z0x 0 (a ++ [x]) = 256 * z0x 0 a + x := by rw [zc6]; rfl
end Go.Proofs.YtaagjnlkinojcaaGreat

/-
  Chapter 03: numbers as ints. The conditions: rows of at most a million bytes.
-/
import Derived.Test.YtaagjnlkinojcaaGreatTy
import Derived.Test.YtaagjnlkinojcaaGreatC1
import Derived.Test.YtaagjnlkinojcaaGreatSxX
namespace Go.Proofs.YtaagjnlkinojcaaGreat
set_option linter.unusedSimpArgs false
set_option linter.unusedVariables false
open Go.Sx
set_option maxRecDepth 10000
abbrev B8 (l : List Int) : Av := .c (.lf (.ints .u8 l))
theorem zfb (l : List Int) (hl : l.length ≤ 1000000) : Ct Tryz.prog 136 [B8 l] [] (.c (.own 0 1 0 l.length)) [] [.row (.ints .u8 l)] := by
 refine z00 Tryz.func136 rfl rfl rfl rfl rfl (fun E hn hb => ?_)
 repeat (refine nst ?_)
 refine zb1 (neg := false) rfl rfl (by rw [hn]; rfl) Tryz.underlying28 rfl (by simp) (by simp [szD]) (fun b hbl => ?_)
 simp [z0c] at hbl
 repeat (refine nst ?_)
 refine z05 rfl (by simp) (fun hc => ?_) (fun hc => ?_)
 · have := hbl hc
   subst this
   repeat (refine nst ?_)
   refine zel 2 64 1 (.ints .u8 []) rfl rfl (.inl rfl) ?_
   exact zd2 [64] rfl trivial ⟨rfl, trivial, rfl, rfl⟩ hb rfl trivial
 · repeat (refine nst ?_)
   refine z1v rfl rfl rfl (by rw [hn]; rfl) (z0k Tryz.underlying28 rfl rfl) (z2C) (by exact vcs) ⟨by decide, rfl⟩ ?_
   repeat (refine nst ?_)
   refine z2e rfl rfl rfl rfl rfl rfl (by rw [hn]; rfl) (z0k Tryz.underlying28 rfl rfl) rfl rfl rfl rfl (by exact vcs) (by first | rfl | (simp; done) | (simp; omega)) ⟨by first | (simp; done) | (simp; omega) | (simp at *; omega), by decide⟩ ?_
   repeat (refine nst ?_)
   exact zd2 [69] rfl trivial ⟨rfl, trivial, rfl, rfl⟩ hb rfl trivial
theorem zgH (l : List Int) (hl : l.length ≤ 1000000) : Ct Tryz.prog 136 [B8 l] [] (B8 l) [] [] :=
 (zfb l hl).freeze ⟨rfl, rfl, rfl, by simp, by simp⟩ rfl
def z0D : List Int → List Int → Int
 | [], [] => 0
 | [], _ :: _ => -1
 | _ :: _, [] => 1
 | x :: a, y :: b => if x < y then -1 else if y < x then 1 else z0D a b
set_option maxHeartbeats 4000000 in
theorem z6t (a b : List Int) (ha : a.length ≤ 1000000) (hb' : b.length ≤ 1000000) : Ct Tryz.prog 92 [B8 a, B8 b] [] (lv (.int .i64 (z0D a b))) [] [] := by
 refine z00 Tryz.func92 rfl rfl rfl rfl rfl (fun E hn hb => ?_)
 repeat (refine nst ?_)
 refine z0a (St.le_of (l := [(0, B8 a), (1, B8 b), (5, lv (.int .i64 0))]) (h := []) (by refine ⟨?_, ?_⟩ <;> (repeat' (first | exact trivial | exact rfl | refine ⟨?_, ?_⟩)) <;> first | exact rfl | (simp; done) | skip)) ?_
 refine z0j (ι := {i : Nat // i ≤ 1000000 ∧ z0D (a.drop i) (b.drop i) = z0D a b}) (fun i => St.of [(0, B8 a), (1, B8 b), (5, lv (.int .i64 (i.1 : Int)))] []) (fun i => 1000001 - i.1) (fun i => ?_) ⟨0, by omega, rfl⟩
 obtain ⟨i, hi, he⟩ := i
 dsimp only
 repeat (refine nst ?_)
 refine z05 rfl (by simp) (fun hc => ?_) (fun hc => ?_)
 · simp at hc
   repeat (refine nst ?_)
   refine z2F 21 (by kernel_rfl) (by kernel_rfl) (by kernel_rfl) (by rw [hn]; rfl) rfl rfl ?_
   repeat (first | refine dp1 ?_ | refine dg1 ?_ | refine z0B ?_)
   repeat (refine nst ?_)
   have key : ∀ x : List Int, i < x.length → x.drop i = x.getD i 0 :: x.drop (i + 1) := fun x h => by
     rw [List.drop_eq_getElem_cons h]; simp [h]
   refine z05 rfl (by simp) (fun hd => ?_) (fun hd => ?_)
   · repeat (refine nst ?_)
     refine rt2 [] ?_ ?_
     · have : z0D a b = -1 := by
         rw [← he]
         by_cases h1 : i < a.length
         · have h2 : i < b.length ∧ a.getD i 0 < b.getD i 0 := by
             have : ¬ a.length ≤ i := by omega
             simpa [this, Bool.cond_eq_ite] using hd
           rw [key a h1, key b h2.1]
           simp only [z0D, h2.2, if_true]
         · rw [List.drop_eq_nil_of_le (by omega), key b (by omega)]; rfl
       rw [this]; rfl
     · trivial
   · repeat (refine nst ?_)
     have hia : i < a.length ∧ (i < b.length → ¬ a.getD i 0 < b.getD i 0) := by
       rcases Nat.lt_or_ge i a.length with h | h
       · have : ¬ a.length ≤ i := by omega
         refine ⟨h, fun hib => ?_⟩
         simpa [this, hib, Bool.cond_eq_ite] using hd
       · simp [h, Bool.cond_eq_ite] at hd
     clear hd
     refine z2F 15 (by kernel_rfl) (by kernel_rfl) (by kernel_rfl) (by rw [hn]; rfl) rfl rfl ?_
     repeat (first | refine dp1 ?_ | refine dg1 ?_ | refine z0B ?_)
     repeat (refine nst ?_)
     refine z05 rfl (by simp) (fun hd => ?_) (fun hd => ?_)
     · repeat (refine nst ?_)
       refine rt2 [] ?_ ?_
       · have : z0D a b = 1 := by
           rw [← he, key a hia.1]
           by_cases h1 : i < b.length
           · have h2 : b.getD i 0 < a.getD i 0 := by
               have : ¬ b.length ≤ i := by omega
               simpa [this, Bool.cond_eq_ite] using hd
             rw [key b h1]
             simp only [z0D, hia.2 h1, h2, if_true, if_false]
           · rw [List.drop_eq_nil_of_le (by omega : b.length ≤ i)]; rfl
         rw [this]; rfl
       · trivial
     · repeat (refine nst ?_)
       have h1 : i < b.length ∧ ¬ b.getD i 0 < a.getD i 0 := by
         rcases Nat.lt_or_ge i b.length with h | h
         · have : ¬ b.length ≤ i := by omega
           refine ⟨h, ?_⟩
           simpa [this, Bool.cond_eq_ite] using hd
         · simp [h, Bool.cond_eq_ite] at hd
       (refine z06 ?i1 ?i2 ?i3; (case i1 => exact ⟨i + 1, by omega, by rw [← he, key a hia.1, key b h1.1]; simp only [z0D, hia.2 h1.1, h1.2, if_false]⟩); (case i2 => (dsimp only; omega)); (case i3 => refine St.le_of ⟨?_, ?_⟩ <;> (repeat' (first | exact trivial | exact rfl | refine ⟨?_, ?_⟩)) <;> first | exact rfl | (simp; done) | skip))
 · repeat (refine nst ?_)
   refine rt2 [] ?_ ?_
   · have : z0D a b = 0 := by
       rw [← he, List.drop_eq_nil_of_le (by simp at hc; omega), List.drop_eq_nil_of_le (by simp at hc; omega)]; rfl
     rw [this]; rfl
   · trivial
theorem z9v : ∀ a b : List Int, z0D a b = 0 ↔ a = b
 | [], [] => by simp [z0D]
 | [], y :: b => by simp [z0D]
 | x :: a, [] => by simp [z0D]
 | x :: a, y :: b => by
   simp only [z0D, List.cons.injEq]
   rw [← z9v a b]
   split
   · simp; omega
   · split
     · simp; omega
     · have : x = y := by omega
       simp [this]
theorem zcC (a b : List Int) (ha : a.length ≤ 1000000) (hb' : b.length ≤ 1000000) : Ct Tryz.prog 35 [B8 a, B8 b] [] (lv (.bool (decide (a = b)))) [] [] := by
 refine z00 Tryz.func35 rfl rfl rfl rfl rfl (fun E hn hb => ?_)
 repeat (refine nst ?_)
 refine z18 (z6t a b ha hb') rfl rfl rfl (by rw [hn]; rfl) rfl rfl (by exact vcs) rfl rfl rfl ?_
 repeat (refine nst ?_)
 refine rt2 [] ?_ ?_
 · have : (z0D a b == 0) = decide (a = b) := by
     rw [Bool.eq_iff_iff]; simp [z9v]
   rw [← this]; rfl
 · trivial

theorem z2M (l : List Int) (hl : l.length ≤ 1000000) : Ct Tryz.prog 13 [B8 l] [] (.c (.ptr 0 0)) [] [z04 l 0] := by
 refine z00 Tryz.func13 rfl rfl rfl rfl rfl (fun E hn hb => ?_)
 repeat (refine nst ?_)
 refine z16 rfl rfl rfl (by rw [hn]; rfl) rfl (by exact vcs) rfl rfl ?_
 repeat (refine nst ?_)
 refine z9f (by_ := 1) rfl rfl rfl (by rw [hn]; rfl) (z0k Tryz.underlying28 rfl rfl) rfl rfl rfl (by exact vcs) l.length (by first | rfl | (simp; done) | omega) (by first | (simp; done) | omega | (simp at *; omega)) ?_
 repeat (refine nst ?_)
 refine z0f rfl rfl rfl rfl rfl (by exact vcs) rfl rfl rfl (by rw [z2L]; rfl) (by rw [z43]; rfl) rfl rfl ?_
 repeat (refine nst ?_)
 refine zcd rfl rfl rfl rfl rfl rfl (by rw [hn]; rfl) (z0k Tryz.underlying28 rfl rfl) rfl rfl rfl (by exact vcs) (by first | (simp; done) | (simp; omega) | (simp at *; omega)) ?_
 have e4 : List.take 0 (List.replicate l.length (0 : Int)) ++ List.take l.length l ++ List.drop (0 + (List.take l.length l).length) (List.replicate l.length (0 : Int)) = l := by
   simp
 rw [e4]
 refine zgM (fun a w h => SR.freezeC (d := .ints .u8 l) (cs := [.own 73 1 0 l.length, .lf (.v (.int .i64 0))]) (cs' := [.lf (.ints .u8 l), .lf (.v (.int .i64 0))]) 73 69 rfl rfl rfl (by rw [hb]; decide) (fun i hi => by rw [hb] at hi; exact absurd hi (Nat.not_lt_zero _)) ⟨⟨rfl, rfl, rfl, by omega, by rw [List.drop_zero, List.take_length]⟩, rfl, trivial⟩ h) ?_
 repeat (refine nst ?_)
 exact rt1 [69]
theorem z7C (l : List Int) (p : Nat) (hp : p < l.length) (hl : l.length ≤ 1000000) : Ct Tryz.prog 201 [.c (.ptr 0 0)] [z04 l p] (.tup [lv (.int .u8 (l.getD p 0)), lv (.int .i64 0)]) [z04 l (p + 1)] [] := by
 have e : ((p : Int) + 1) = ((p + 1 : Nat) : Int) := by omega
 refine z00 Tryz.func201 rfl rfl rfl rfl rfl (fun E hn hb => ?_)
 repeat (refine nst ?_)
 refine z0K (z0x (z15 (zhx l p hp (by omega)) rfl rfl rfl (by exact vcs) ⟨.inr (.inr ⟨0, 0, _, _, rfl, rfl, rfl, rfl⟩), trivial⟩ rfl) rfl) (by rw [hn]; rfl) ?_
 repeat (refine nst ?_)
 refine z05 rfl (by simp) (fun h1 => ?_) (fun h1 => ?_)
 · repeat (refine nst ?_)
   refine z0f rfl rfl rfl rfl rfl (by exact vcs) rfl rfl rfl (by rw [z22]; rfl) (by rw [z4Q]; rfl) rfl rfl ?_
   repeat (refine nst ?_)
   refine rt2 [] ?_ ?_
   · rfl
   · trivial
 · simp at h1
theorem z6u (l : List Int) (hl : l.length ≤ 1000000) : Ct Tryz.prog 201 [.c (.ptr 0 0)] [z04 l l.length] (.tup [lv (.int .u8 0), lv (.int .i64 3)]) [z04 l l.length] [] := by
 refine z00 Tryz.func201 rfl rfl rfl rfl rfl (fun E hn hb => ?_)
 repeat (refine nst ?_)
 refine z0K (z0x (z15 (zg2 l (by omega)) rfl rfl rfl (by exact vcs) ⟨.inr (.inr ⟨0, 0, _, _, rfl, rfl, rfl, rfl⟩), trivial⟩ rfl) rfl) (by rw [hn]; rfl) ?_
 repeat (refine nst ?_)
 refine z05 rfl (by simp) (fun h1 => ?_) (fun h1 => ?_)
 · simp at h1
 · repeat (refine nst ?_)
   exact rt1 []
theorem z5Q (l : List Int) (p n : Nat) (hp : p + n ≤ l.length) (hl : l.length ≤ 1000000) : Ct Tryz.prog 177 [.c (.ptr 0 0), lv (.int .i64 (n : Int))] [z04 l p] (.tup [B8 ((l.drop p).take n), lv (.int .i64 0)]) [z04 l (p + n)] [] := by
 have e : z5c l p n = 0 := by rw [z5c, if_neg (by omega), if_neg (by omega)]
 have hm := zey l p n (by omega) (by omega)
 rw [e] at hm
 have hlen : ((l.drop p).take n).length = n := by simp; omega
 refine z00 Tryz.func177 rfl rfl rfl rfl rfl (fun E hn hb => ?_)
 repeat (refine nst ?_)
 refine z0K (z0x (z15 (hm) rfl rfl rfl (by exact vcs) ⟨.inr (.inr ⟨0, 0, _, _, rfl, rfl, rfl, rfl⟩), .inl rfl, trivial⟩ rfl) rfl) (by rw [hn]; rfl) ?_
 repeat (refine nst ?_)
 refine z05 rfl (by simp) (fun h1 => ?_) (fun h1 => ?_)
 · simp at h1
 repeat (refine nst ?_)
 refine z9r (by kernel_rfl) (by kernel_rfl) (by rw [hn]; rfl) ?_
 repeat (first | refine dp1 ?_ | refine dg1 ?_ | refine z0B ?_)
 refine z1h rfl (z1c (z8L (zez l p p n hp hl) rfl rfl rfl (by exact vcs) ⟨.inr (.inr ⟨0, 0, _, _, rfl, rfl, rfl, rfl⟩), .inl rfl, .inl rfl, trivial⟩ rfl (by first | (simp; done) | (simp; omega) | omega)) rfl) ?_
 repeat (first | refine dp1 ?_ | refine dg1 ?_ | refine z0B ?_)
 repeat (refine nst ?_)
 refine z0f rfl rfl rfl rfl rfl (by exact vcs) rfl rfl rfl (by rw [z22]; rfl) (by rw [z4Q]; rfl) rfl rfl ?_
 repeat (refine nst ?_)
 refine rt2 [] ?_ ?_
 · show Av.tup [B8 ((((l.drop p).take n).drop 0).take n), lv (.int .i64 0)] = _
   rw [List.drop_zero, List.take_of_length_le (by omega)]
   rfl
 · trivial
theorem z8f (l : List Int) (p : Nat) (n : Int) (h0 : 0 ≤ n) (hp : p ≤ l.length) (hn : (l.length : Int) - p < n) (hl : l.length ≤ 1000000) : Ct Tryz.prog 177 [.c (.ptr 0 0), lv (.int .i64 n)] [z04 l p] (.tup [.c (.lf (.v (.slice none 0 0))), lv (.int .i64 3)]) [z04 l p] [] := by
 have e : z5c l p n = 3 := by rw [z5c, if_neg (by omega), if_pos hn]
 have hm := zey l p n (by omega) (by omega)
 rw [e] at hm
 refine z00 Tryz.func177 rfl rfl rfl rfl rfl (fun E hn hb => ?_)
 repeat (refine nst ?_)
 refine z0K (z0x (z15 (hm) rfl rfl rfl (by exact vcs) ⟨.inr (.inr ⟨0, 0, _, _, rfl, rfl, rfl, rfl⟩), .inl rfl, trivial⟩ rfl) rfl) (by rw [hn]; rfl) ?_
 repeat (refine nst ?_)
 refine z05 rfl (by simp) (fun h1 => ?_) (fun h1 => ?_)
 · repeat (refine nst ?_)
   exact rt1 []
 · simp at h1
theorem z1x (l : List Int) (p q : Nat) (hq : q ≤ p) (hl : p ≤ 1000000) : Ct Tryz.prog 65 [.c (.ptr 0 0), lv (.int .i64 (q : Int))] [z04 l p] (lv (.int .i64 0)) [z04 l q] [] := by
 refine z00 Tryz.func65 rfl rfl rfl rfl rfl (fun E hn hb => ?_)
 repeat (refine nst ?_)
 refine z0K (z0x (z3a (neg := false) rfl rfl rfl rfl (by exact vcs)) rfl) (by rw [hn]; rfl) ?_
 repeat (refine nst ?_)
 refine z05 rfl (by simp) (fun h1 => ?_) (fun h1 => ?_)
 · simp at h1
 repeat (refine nst ?_)
 refine z05 rfl (by simp) (fun h1 => ?_) (fun h1 => ?_)
 · simp at h1; omega
 repeat (refine nst ?_)
 refine z0f rfl rfl rfl rfl rfl (by exact vcs) rfl rfl rfl (by rw [z22]; rfl) (by rw [z4Q]; rfl) rfl rfl ?_
 repeat (refine nst ?_)
 exact rt1 []
theorem z7D (l : List Int) (p : Nat) (hp : p ≤ l.length) (hl : l.length ≤ 1000000) : Ct Tryz.prog 117 [.c (.ptr 0 0)] [z04 l p] (B8 (l.drop p)) [z04 l l.length] [] := by
 have hc := zez l p p (l.length - p) (by omega) hl
 have e : ((p : Int) + ((l.length - p : Nat) : Int)) = (l.length : Int) := by omega
 rw [e] at hc
 have e2 : (((l.drop p).take (l.length - p)).drop 0).take (l.length - p) = l.drop p := by
   rw [List.drop_zero, List.take_take, Nat.min_self, List.take_of_length_le (by simp)]
 refine z00 Tryz.func117 rfl rfl rfl rfl rfl (fun E hn hb => ?_)
 repeat (refine nst ?_)
 refine z0K (z0x (z3a (neg := false) rfl rfl rfl rfl (by exact vcs)) rfl) (by rw [hn]; rfl) ?_
 repeat (refine nst ?_)
 refine z05 rfl (by simp) (fun h1 => ?_) (fun h1 => ?_)
 · simp at h1
 repeat (refine nst ?_)
 refine z9r (by kernel_rfl) (by kernel_rfl) (by rw [hn]; rfl) ?_
 repeat (first | refine dp1 ?_ | refine dg1 ?_ | refine z0B ?_)
 refine z1h rfl (z1c (z6o (z9i l p) rfl rfl rfl (by exact vcs) ⟨.inr (.inr ⟨0, 0, _, _, rfl, rfl, rfl, rfl⟩), trivial⟩ rfl) rfl) ?_
 repeat (first | refine dp1 ?_ | refine dg1 ?_ | refine z0B ?_)
 refine z1h rfl (z1c (z8L (hc) rfl rfl rfl (by exact vcs) ⟨.inr (.inr ⟨0, 0, _, _, rfl, rfl, rfl, rfl⟩), .inl rfl, .inl rfl, trivial⟩ rfl (by first | (simp; done) | (simp; omega) | omega)) rfl) ?_
 repeat (first | refine dp1 ?_ | refine dg1 ?_ | refine z0B ?_)
 repeat (refine nst ?_)
 refine z0K (z0x (z15 (z9i l p) rfl rfl rfl (by exact vcs) ⟨.inr (.inr ⟨0, 0, _, _, rfl, rfl, rfl, rfl⟩), trivial⟩ rfl) rfl) (by rw [hn]; rfl) ?_
 repeat (refine nst ?_)
 refine z0f rfl rfl rfl rfl rfl (by exact vcs) rfl rfl rfl (by rw [z22]; rfl) (by rw [z4Q]; rfl) rfl rfl ?_
 repeat (refine nst ?_)
 refine rt2 [] ?_ ?_
 · show B8 ((((l.drop p).take (l.length - p)).drop 0).take (l.length - p)) = _
   rw [e2]
   rfl
 · trivial
theorem znJ (l : List Int) (p n : Nat) (hp : p + n ≤ l.length) (hl : l.length ≤ 1000000) : Ct Tryz.prog 130 [.c (.ptr 0 0), lv (.int .i64 (n : Int))] [z04 l p] (.tup [.c (.ptr 1 0), lv (.int .i64 0)]) [z04 l (p + n)] [z04 ((l.drop p).take n) 0] := by
 refine z00 Tryz.func130 rfl rfl rfl rfl rfl (fun E hn hb => ?_)
 repeat (refine nst ?_)
 have ht := z5Q l p n hp hl
 refine z0n [0] ht rfl rfl (by rw [hn]; rfl) rfl rfl (by trivial) ⟨rfl, rfl, (by simp [z0i]), rfl⟩ ?_
 repeat (refine nst ?_)
 refine z05 rfl (by simp) (fun h1 => ?_) (fun h1 => ?_)
 · simp at h1
 repeat (refine nst ?_)
 refine z16 rfl rfl rfl (by rw [hn]; rfl) rfl (by exact vcs) rfl rfl ?_
 repeat (refine nst ?_)
 refine z0f rfl rfl rfl rfl rfl (by exact vcs) rfl rfl rfl (by rw [z2L]; rfl) (by rw [z43]; rfl) rfl rfl ?_
 repeat (refine nst ?_)
 exact rt1 [83]
theorem zlr (l : List Int) (p : Nat) (n : Int) (h0 : 0 ≤ n) (hp : p ≤ l.length) (hn' : (l.length : Int) - p < n) (hl : l.length ≤ 1000000) : Ct Tryz.prog 130 [.c (.ptr 0 0), lv (.int .i64 n)] [z04 l p] (.tup [.c (.lf (.v (.pointer none))), lv (.int .i64 3)]) [z04 l p] [] := by
 refine z00 Tryz.func130 rfl rfl rfl rfl rfl (fun E hn hb => ?_)
 repeat (refine nst ?_)
 have ht := z8f l p n h0 hp hn' hl
 refine z0n [0] ht rfl rfl (by rw [hn]; rfl) rfl rfl (by trivial) ⟨rfl, rfl, (by simp [z0i]), rfl⟩ ?_
 repeat (refine nst ?_)
 refine z05 rfl (by simp) (fun h1 => ?_) (fun h1 => ?_)
 · repeat (refine nst ?_)
   exact rt1 []
 · simp at h1

@[simp] theorem zyj (x : Int) : IntKind.u8.wrap x = x % 256 := by simp [IntKind.wrap, IntKind.signed, IntKind.bits]
def WfB (l : List Int) : Prop := ∀ x ∈ l, 0 ≤ x ∧ x < 256

def hd0 (l : List Int) : Int := l.getD 0 0

def z2J (l : List Int) (i : Nat) : List Int := (List.range l.length).map fun k => if k < i ∨ l.length ≤ k + i then l.getD (l.length - 1 - k) 0 else l.getD k 0
theorem zgI (l : List Int) (i : Nat) : (z2J l i).length = l.length := by simp [z2J]
theorem zbC (l : List Int) (i k : Nat) (h : k < l.length) : (z2J l i).getD k 0 = if k < i ∨ l.length ≤ k + i then l.getD (l.length - 1 - k) 0 else l.getD k 0 := by
 simp [z2J, h]
theorem zfc (l : List Int) : z2J l 0 = l := by
 apply List.ext_getElem?
 intro k
 by_cases h : k < l.length
 · simp [z2J, h]; intro; omega
 · simp [z2J, h]
theorem zgJ (l : List Int) (i : Nat) (h : l.length ≤ 2 * i + 1) : z2J l i = l.reverse := by
 apply List.ext_getElem?
 intro k
 by_cases hk : k < l.length
 · rw [List.getElem?_reverse hk]
   simp only [z2J, List.getElem?_map, List.getElem?_range hk, Option.map_some]
   have h1 : l.length - 1 - k < l.length := by omega
   rw [List.getElem?_eq_getElem h1]
   split
   · simp [h1]
   · have : l.length - 1 - k = k := by omega
     simp [this, hk]
 · simp [z2J, hk]
theorem zgK (l : List Int) (i : Nat) (h : 2 * i + 1 < l.length) : ((z2J l i).set i (l.getD (l.length - 1 - i) 0)).set (l.length - 1 - i) (l.getD i 0) = z2J l (i + 1) := by
 apply List.ext_getElem?
 intro k
 by_cases hk : k < l.length
 · simp only [List.getElem?_set, z2J, List.getElem?_map, List.getElem?_range hk, Option.map_some, List.length_set, List.length_map, List.length_range]
   by_cases h1 : l.length - 1 - i = k
   · subst h1
     have e : l.length - 1 - (l.length - 1 - i) = i := by omega
     rw [if_pos rfl, if_pos (by omega), e, if_pos (by omega)]
   · rw [if_neg h1]
     by_cases h2 : i = k
     · subst h2
       rw [if_pos rfl, if_pos (by omega), if_pos (by omega)]
     · rw [if_neg h2]
       congr 1
       by_cases h3 : k < i ∨ l.length ≤ k + i
       · rw [if_pos h3, if_pos (by omega)]
       · rw [if_neg h3, if_neg (by omega)]
 · simp [z2J, hk]
theorem z6v (l : List Int) (hl : l.length ≤ 1000000) : Ct Tryz.prog 232 [.c (.own 0 1 0 l.length)] [.row (.ints .u8 l)] (.tup []) [.row (.ints .u8 l.reverse)] [] := by
 refine z00 Tryz.func232 rfl rfl rfl rfl rfl (fun E hn hb => ?_)
 repeat (refine nst ?_)
 have ez := zfc l
 refine z0a (St.le_of (l := [(0, .c (.own 0 1 0 l.length)), (2, lv (.int .i64 0)), (3, lv (.int .i64 ((l.length : Int) - 1)))]) (h := [(0, .row (.ints .u8 l))]) (by refine ⟨?_, ?_⟩ <;> (repeat' (first | exact trivial | exact rfl | refine ⟨?_, ?_⟩)) <;> first | exact rfl | (simp; done) | skip)) ?_
 refine z0a (τ := St.of [(0, .c (.own 0 1 0 l.length)), (2, lv (.int .i64 ((0 : Nat) : Int))), (3, lv (.int .i64 ((l.length : Int) - 1 - (0 : Nat))))] [(0, .row (.ints .u8 (z2J l 0)))]) ?_ ?_
 · rw [ez]; simp only [Int.natCast_zero, Int.sub_zero]; exact ⟨fun _ => .inl rfl, fun _ => .inl rfl⟩
 refine z0j (ι := {i : Nat // 2 * i ≤ l.length + 1}) (fun i => St.of [(0, .c (.own 0 1 0 l.length)), (2, lv (.int .i64 (i.1 : Int))), (3, lv (.int .i64 ((l.length : Int) - 1 - i.1)))] [(0, .row (.ints .u8 (z2J l i.1)))]) (fun i => l.length + 1 - 2 * i.1) (fun i => ?_) ⟨0, by omega⟩
 obtain ⟨i, hi⟩ := i
 dsimp only
 have hL := zgI l i
 repeat (refine nst ?_)
 refine z05 rfl (by simp) (fun hc => ?_) (fun hc => ?_)
 · have h2 : 2 * i + 1 < l.length := by simp at hc; omega
   repeat (refine nst ?_)
   refine zhv [2, 3] (by kernel_rfl) (by kernel_rfl) (by rw [hn]; rfl) ?_
   repeat (refine nsx ?_)
   refine z6Y rfl rfl rfl rfl (by exact vcs) rfl (by rw [z6s]) (by first | (simp; done) | (simp; omega) | (simp at *; omega)) ?_
   repeat (refine nsx ?_)
   refine z6Y rfl rfl rfl rfl (by exact vcs) rfl (by rw [z6s]) (by first | (simp; done) | (simp; omega) | (simp at *; omega)) ?_
   repeat (refine nsx ?_)
   repeat (refine nst ?_)
   have e1 : ((l.length : Int) - 1 - i).toNat = l.length - 1 - i := by omega
   have g1 : (z2J l i).getD (0 + ((l.length : Int) - 1 - i).toNat) 0 = l.getD (l.length - 1 - i) 0 := by
     rw [e1, Nat.zero_add, zbC l i _ (by omega), if_neg (by omega)]
   have g2 : (z2J l i).getD (0 + (i : Int).toNat) 0 = l.getD i 0 := by
     rw [Int.toNat_natCast, Nat.zero_add, zbC l i _ (by omega), if_neg (by omega)]
   rw [g1, g2]
   refine z06 ⟨i + 1, by omega⟩ (by dsimp only; omega) (St.le_of ⟨⟨rfl, rfl, ?_⟩, ?_⟩)
   · show lv (.int .i64 ((l.length : Int) - 1 - i - 1)) = lv (.int .i64 ((l.length : Int) - 1 - (i + 1 : Nat)))
     have : (l.length : Int) - 1 - i - 1 = (l.length : Int) - 1 - (i + 1 : Nat) := by omega
     rw [this]
   · show Blk.row (.ints .u8 (((z2J l i).set (0 + (i : Int).toNat) (l.getD (l.length - 1 - i) 0)).set (0 + ((l.length : Int) - 1 - i).toNat) (l.getD i 0))) = Blk.row (.ints .u8 (z2J l (i + 1)))
     rw [e1, Int.toNat_natCast, Nat.zero_add, Nat.zero_add, zgK l i h2]
 · have h2 : l.length ≤ 2 * i + 1 := by simp at hc; omega
   repeat (refine nst ?_)
   refine zmc [] rfl trivial ⟨rfl, ?_, trivial, rfl⟩ hb rfl (by simp [z0i])
   exact congrArg (fun l => Blk.row (.ints .u8 l)) (zgJ l i h2)

def z0L : Int → List Int → Int
 | c, [] => c
 | c, x :: l => z0L (256 * c + x) l
theorem zcD {x : Int} {l : List Int} (h : WfB (x :: l)) : WfB l := fun y hy => h y (List.mem_cons_of_mem _ hy)
theorem z6w : ∀ (l : List Int) (c : Int), 0 ≤ c → WfB l → c ≤ z0L c l
 | [], c, _, _ => Int.le_refl _
 | x :: l, c, hc, hw => by
   have hx := hw x (List.mem_cons_self ..)
   have := z6w l (256 * c + x) (by omega) (zcD hw)
   simp only [z0L]
   omega
theorem zab : ∀ (l : List Int) (c : Int), WfB l → z0L c l < (c + 1) * 256 ^ l.length
 | [], c, _ => by simp [z0L]; omega
 | x :: l, c, hw => by
   have hx := hw x (List.mem_cons_self ..)
   have := zab l (256 * c + x) (zcD hw)
   simp only [z0L, List.length_cons]
   have h2 : (256 * c + x + 1) * 256 ^ l.length ≤ (256 * (c + 1)) * (256 : Int) ^ l.length := Int.mul_le_mul_of_nonneg_right (by omega) (Int.pow_nonneg (by decide))
   have h3 : (c + 1) * (256 : Int) ^ (l.length + 1) = (256 * (c + 1)) * 256 ^ l.length := by
     rw [Int.pow_succ, Int.mul_comm ((256 : Int) ^ l.length) 256, ← Int.mul_assoc, Int.mul_comm (c + 1) 256]
   omega

theorem zcE {l : List Int} (h : WfB l) (n : Nat) : WfB (l.take n) := fun x hx => h x (List.mem_of_mem_take hx)

theorem zcF : ∀ (a b : List Int) (c : Int), z0L c (a ++ b) = z0L (z0L c a) b
 | [], _, _ => rfl
 | x :: a, b, c => by simp only [List.cons_append, z0L, zcF a b]
theorem znK (a b : Nat) (h : a ≤ b) : (256 : Int) ^ a ≤ 256 ^ b := by
 have h1 : (256 : Nat) ^ a ≤ 256 ^ b := Nat.pow_le_pow_right (by decide) h
 have h2 : ((256 ^ a : Nat) : Int) = 256 ^ a := by simp
 have h3 : ((256 ^ b : Nat) : Int) = 256 ^ b := by simp
 rw [← h2, ← h3]
 exact Int.ofNat_le.2 h1
theorem zfd (l : List Int) (n : Nat) (hn : l.length ≤ n) (hw : WfB l) : z0L 0 l < 256 ^ n := by
 have h := zab l 0 hw
 have h2 := znK l.length n hn
 omega
theorem zbD (a : List Int) (x : Int) : z0L 0 (a ++ [x]) = 256 * z0L 0 a + x := by rw [zcF]; rfl
end Go.Proofs.YtaagjnlkinojcaaGreat
